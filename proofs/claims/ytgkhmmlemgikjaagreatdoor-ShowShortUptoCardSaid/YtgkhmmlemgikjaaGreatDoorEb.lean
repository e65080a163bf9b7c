/- Part Eb. No condition. -/
import Derived.Test.YtgkhmmlemgikjaaGreatDoorEf
import Derived.RecoverIn
set_option linter.unusedVariables false
set_option linter.unusedSimpArgs false
namespace Go.Proofs.YtgkhmmlemgikjaaGreatDoor.Ai
open Go
structure Inj.leN (n:Nat) (J J':Inj):Prop where
 ρ:∀r b,r<n→J.ρ r=some b→J'.ρ r=some b
 τ:∀i k v,i<n→J.τ i k=some v→J'.τ i k=some v
 im:∀b o v,J.im b o=some v→J'.im b o=some v
 sz:∀r k,r<n→J.sz r=some k→J'.sz r=some k
mutual
theorem Rep.low {J J':Inj} {n:Nat} (h:J.leN n J'):∀(v:AV) (x:Value),Rep J v x→AV.lowB n v=true→Rep J' v x
 | .bool _,_,r,_=>by simpa [Rep] using r
 | .int _ _,_,r,_=>by simpa [Rep] using r
 | .str _,_,r,_=>by simpa [Rep] using r
 | .nilFunc,_,r,_=>by simpa [Rep] using r
 | .nilIface,_,r,_=>by simpa [Rep] using r
 | .nilPtr,_,r,_=>by simpa [Rep] using r
 | .nilMap,_,r,_=>by simpa [Rep] using r
 | .nilSl,_,r,_=>by simpa [Rep] using r
 | .any,_,r,_=>by simpa [Rep] using r
 | .agg cs,x,r,l=>by
  simp only [Rep] at r ⊢;simp only [AV.lowB] at l;obtain ⟨arr,e,h1,h2⟩:=r;exact ⟨arr,e,Reps.low h cs _ h1 l,h2⟩
 | .tup vs,x,r,l=>by
  simp only [Rep] at r ⊢;simp only [AV.lowB] at l;obtain ⟨arr,e,h1⟩:=r;exact ⟨arr,e,Reps.low h vs _ h1 l⟩
 | .func fn a b,x,r,l=>by
  simp only [AV.lowB,Bool.and_eq_true] at l
  cases fn with
  | func f=>simp only [Rep] at r ⊢;obtain ⟨a',b',e,h1,h2⟩:=r;exact ⟨a',b',e,Reps.low h a _ h1 l.1.2,Reps.low h b _ h2 l.2⟩
  | yield q=>simp only [Rep] at r ⊢;obtain ⟨e1,e2,l',h1,e⟩:=r;exact ⟨e1,e2,l',h.ρ _ _ (by simpa using l.1.1) h1,e⟩
  | method n=>simp only [Rep] at r
  | methodOf t n=>simp only [Rep] at r
  | via t p f q=>simp only [Rep] at r
 | .iface t v,x,r,l=>by
  simp only [Rep] at r ⊢;simp only [AV.lowB] at l;obtain ⟨y,e,h1⟩:=r;exact ⟨y,e,Rep.low h v _ h1 l⟩
 | .lst m es ap,x,r,l=>by
  simp only [Rep] at r ⊢
  simp only [AV.lowB,Bool.and_eq_true] at l
  obtain ⟨h1,h2⟩:=r
  refine ⟨fun id e=>h.τ _ _ _ (by subst e;simpa using l.2) (h1 id e),?_⟩
  rcases h2 with h2 | ⟨a,cap,e,h3,h4,h5,h6⟩
  ·exact .inl h2
  ·exact .inr ⟨a,cap,e,h3,h4,h5,Elems.low h m es _ _ h6 l.1⟩
 | .sl r _ off len cap,x,q,l=>by
  simp only [Rep] at q ⊢;simp only [AV.lowB,decide_eq_true_eq] at l;obtain ⟨b,c,h1,h2,h3,h4,k,h5,h6⟩:=q;exact ⟨b,c,h.ρ _ _ l h1,h2,h3,h4,k,h.sz _ _ l h5,h6⟩
 | .ptr r off,x,q,l=>by
  simp only [Rep] at q ⊢;simp only [AV.lowB,decide_eq_true_eq] at l;obtain ⟨b,h1,h2⟩:=q;exact ⟨b,h.ρ _ _ l h1,h2⟩
 | .map r,x,q,l=>by
  simp only [Rep] at q ⊢;simp only [AV.lowB,decide_eq_true_eq] at l;obtain ⟨b,h1,h2⟩:=q;exact ⟨b,h.ρ _ _ l h1,h2⟩
 | .iptr v,x,r,l=>by
  simp only [Rep] at r ⊢;simp only [AV.lowB] at l;obtain ⟨a,y,e,h1,h2,h3,h4⟩:=r
  exact ⟨a,y,e,h1,Rep.low h v _ h2 l,h3,fun i v hv=>h.im _ _ _ (h4 i v hv)⟩
theorem Reps.low {J J':Inj} {n:Nat} (h:J.leN n J'):∀(vs:List AV) (xs:List Value),Reps J vs xs→AV.lowsB n vs=true→Reps J' vs xs
 | [],_,r,_=>by simpa [Reps] using r
 | v::vs,xs,r,l=>by
  simp only [AV.lowsB,Bool.and_eq_true] at l
  simp only [Reps] at r ⊢;obtain ⟨y,ys,e,h1,h2⟩:=r;exact ⟨y,ys,e,Rep.low h v _ h1 l.1,Reps.low h vs _ h2 l.2⟩
theorem Elems.low {J J':Inj} {n:Nat} (h:J.leN n J') (m:Nat):∀(es:List AV) (b o:Nat),Elems J m es b o→AV.lowsB n es=true→Elems J' m es b o
 | [],_,_,_,_=>by simp [Elems]
 | e::es,b,o,r,l=>by
  simp only [AV.lowsB,Bool.and_eq_true] at l
  simp only [Elems] at r ⊢
  obtain ⟨⟨y,h1,h2,h3,h4⟩,h5⟩:=r
  exact ⟨⟨y,Rep.low h e _ h1 l.1,h2,h3,fun i v hv=>h.im _ _ _ (h4 i v hv)⟩,Elems.low h m es _ _ h5 l.2⟩
end
section
variable {K:Sites} {base:Bs} {J:Inj} {st:St} {w:World} {n:Nat}
open Classical in
noncomputable def Inj.cut (J:Inj) (st:St) (w:World) (n:Nat):Inj :=
 { ρ:=fun r=>if r<n then J.ρ r else none
   τ:=fun i k=>if i<n then J.τ i k else none
   im:=fun b o=>if ∃r ty cs,n≤r∧st[r]?=some (AObj.cells ty cs)∧J.ρ r=some b then w.cell? ⟨b,o,none⟩ else J.im b o
   sz:=fun r=>if r<n then J.sz r else none
   szρ:=fun r k h=>by
    by_cases hr:r<n
    ·rw [if_pos hr] at h ⊢;exact J.szρ r k h
    ·rw [if_neg hr] at h;cases h }
theorem Sim.cut_leN (h:Sim K base J st w):J.leN n (J.cut st w n):=by
 refine ⟨fun r b hr e=>by simp [Inj.cut,hr,e],fun i k v hi e=>by simp [Inj.cut,hi,e],fun b o v e=>?_,fun r k hr e=>by simp [Inj.cut,hr,e]⟩
 simp only [Inj.cut]
 split
 ·rename_i hh
  obtain ⟨r,ty,cs,_,hst,hb⟩:=hh
  exact absurd e (h.noIm r _ b hst hb rfl o v)
 ·exact e
theorem DefReps.low {J':Inj} (hJ:J.leN n J'):∀{l:List ADef} {l':List Deferred},DefReps J l l'→(∀d∈l,ADef.lowB n d=true)→DefReps J' l l'
 | [],_,hd,_=>hd
 | d::ds,_,⟨y,ys,e,hd1,hd2⟩,hl=>by
  refine ⟨y,ys,e,?_,DefReps.low hJ hd2 (fun x hx=>hl x (List.mem_cons_of_mem _ hx))⟩
  have:=hl d (List.mem_cons_self ..)
  cases d with
  | collected q=>obtain ⟨b',hb',e'⟩:=hd1;exact ⟨b',hJ.ρ _ _ (by simpa [ADef.lowB] using this) hb',e'⟩
  | call f args=>obtain ⟨cap,e',hr'⟩:=hd1;exact ⟨cap,e',Reps.low hJ _ _ hr' this⟩
theorem ObjSim.low {r:Nat} {o:AObj} {J':Inj} (hJ:J.leN n J') (hr:r<n) (h:ObjSim K J w r o) (hl:AObj.lowB n o=true)
  (him:∀b,ownB J r o=some b→o.isTok=true→∀k v,J'.im b k=some v→J.im b k=some v):ObjSim K J' w r o:=by
 cases o with
 | dead=>trivial
 | cells cs=>obtain ⟨b,c,t,h1,h2,h3,h4,h5,h6,k,h7,h8⟩:=h;exact ⟨b,c,t,hJ.ρ _ _ hr h1,h2,h3,Reps.low hJ _ _ h4 hl,h5,h6,k,hJ.sz _ _ hr h7,h8⟩
 | tok m k ty =>
  rcases h with ⟨h1,s,h2⟩ | ⟨a,cap,c,t,h1,h2,h0,h3,h4,h5,h6,h7⟩
  ·exact .inl ⟨h1,s,hJ.τ _ _ _ hr h2⟩
  ·have hb:ownB J r (.tok m k ty)=some a.block:=by simp [ownB,h1];omega
   exact .inr ⟨a,cap,c,t,hJ.τ _ _ _ hr h1,h2,h0,h3,h4,h5,fun k v hk e=>h6 k v hk (him _ hb rfl k v e),h7⟩
 | map es =>
  obtain ⟨b,c,t,h1,h2,h3⟩:=h
  refine ⟨b,c,t,hJ.ρ _ _ hr h1,h2,h3.1,fun i e he=>?_⟩
  obtain ⟨x,hx,r1,r2⟩:=h3.2 i e he
  simp only [AObj.lowB,List.all_eq_true,Bool.and_eq_true] at hl
  have:=hl e (List.mem_of_getElem? he)
  exact ⟨x,hx,Rep.low hJ _ _ r1 this.1,Rep.low hJ _ _ r2 this.2⟩
 | loop s p f site ps env d =>
  obtain ⟨b,l,h1,h2,h3,h4,h6,h7,h8,h9⟩:=h
  simp only [AObj.lowB,Bool.and_eq_true,decide_eq_true_eq] at hl
  exact ⟨b,l,hJ.ρ _ _ hr h1,h2,h3,h4,h6,h7,Reps.low hJ _ _ h8 hl.1,hJ.ρ _ _ hl.2 h9⟩
 | defr cs =>
  obtain ⟨b,ds,h1,h2,h3⟩:=h
  refine ⟨b,ds,hJ.ρ _ _ hr h1,h2,?_⟩
  cases cs with
  | none=>exact h3
  | some l =>
   obtain ⟨l',e,hd⟩:=h3
   refine ⟨l',e,?_⟩
   simp only [AObj.lowB,List.all_eq_true] at hl
   exact DefReps.low hJ hd hl
theorem ownB_cut (J:Inj) (st:St) (w:World) {r:Nat} {o:AObj} (hr:r<n):ownB (J.cut st w n) r o=ownB J r o:=by
 cases o<;>simp [ownB,Inj.cut,hr]
theorem Sim.cut (h:Sim K base J st w) (hl:(st.take n).all (AObj.lowB n)=true):Sim K base (J.cut st w n) (st.take n) w:=by
 have hle:=h.cut_leN (n:=n)
 have hget:∀(r:Nat) x,(st.take n)[r]?=some x→r<n∧st[r]?=some x:=by
  intro r x e
  rw [List.getElem?_take] at e
  split at e
  ·rename_i hh;exact ⟨hh,e⟩
  ·cases e
 -- a block of an object below n is none of those that stay
 have hsep:∀(r:Nat) x b,r<n→st[r]?=some x→ownB J r x=some b→∀k,(J.cut st w n).im b k=J.im b k:=by
  intro r x b hr hx hb k
  simp only [Inj.cut]
  rw [if_neg]
  rintro ⟨r',ty,cs,hr',hst,hb'⟩
  have:=(h.own r x b hx hb).2.2 r' _ hst hb'
  omega
 refine ⟨h.os,h.output,h.size,h.old,fun b o v e=>?_,fun r b e=>?_,fun i k v e=>?_,fun r x e=>?_,fun r x b e e'=>?_,fun r x b e e' ht k v hv=>?_,fun b hb=>?_⟩
 ·simp only [Inj.cut] at e
  split at e
  ·exact e
  ·exact h.imOk b o v e
 ·simp only [Inj.cut] at e
  split at e
  ·rename_i hh
   have:=h.ρlt r b e
   exact ⟨by simp;omega,this.2⟩
  ·cases e
 ·simp only [Inj.cut] at e
  split at e
  ·rename_i hh
   obtain ⟨h1,h2⟩:=h.τlt i k v e
   refine ⟨by simp;omega,fun m l ty' e'=>h2 m l ty' (hget i _ e').2⟩
  ·cases e
 ·obtain ⟨hr,hx⟩:=hget r x e
  rw [List.all_eq_true] at hl
  exact (h.obj r x hx).low hle hr (hl x (List.mem_of_getElem? e)) (fun b hb _ k v hv=>by rw [hsep r x b hr hx hb] at hv;exact hv)
 ·obtain ⟨hr,hx⟩:=hget r x e
  rw [ownB_cut J st w hr] at e'
  obtain ⟨h1,h2,h3⟩:=h.own r x b hx e'
  refine ⟨h1,h2,fun r' x' e3 e4=>?_⟩
  obtain ⟨hr',hx'⟩:=hget r' x' e3
  rw [ownB_cut J st w hr'] at e4
  exact h3 r' x' hx' e4
 ·obtain ⟨hr,hx⟩:=hget r x e
  rw [ownB_cut J st w hr] at e'
  rw [hsep r x b hr hx e'] at hv
  exact h.noIm r x b hx e' ht k v hv
 ·obtain ⟨h1,h2,h3,h4⟩:=h.hid b hb
  refine ⟨h1,h2,fun k v hv=>?_,fun r x e e'=>?_⟩
  ·simp only [Inj.cut] at hv
   split at hv
   ·rename_i hh
    obtain ⟨r',ty,cs,hr',hst,hb'⟩:=hh
    exact h4 r' _ hst hb'
   ·exact h3 k v hv
  ·obtain ⟨hr,hx⟩:=hget r x e
   rw [ownB_cut J st w hr] at e'
   exact h4 r x hx e'
mutual
theorem still_rep (h:Sim K base J st w):∀(v v':AV) (x:Value),AV.still n st v=some v'→Rep J v x→Rep (J.cut st w n) v' x
 | .agg cs,v',x,e,r=>by
  simp only [AV.still,Option.map_eq_some_iff] at e
  obtain ⟨cs',e,rfl⟩:=e
  simp only [Rep] at r ⊢
  obtain ⟨arr,rfl,h1,h2⟩:=r
  exact ⟨arr,rfl,stills_reps h cs cs' _ e h1,stills_cell cs cs' e h2⟩
 | .tup vs,v',x,e,r=>by
  simp only [AV.still,Option.map_eq_some_iff] at e
  obtain ⟨cs',e,rfl⟩:=e
  simp only [Rep] at r ⊢
  obtain ⟨arr,rfl,h1⟩:=r
  exact ⟨arr,rfl,stills_reps h vs cs' _ e h1⟩
 | .lst m es ap,v',x,e,r=>by
  simp only [AV.still,Option.map_eq_some_iff] at e
  obtain ⟨es',e,rfl⟩:=e
  have hlen:=stills_length es es' e
  simp only [Rep] at r ⊢
  obtain ⟨h1,h2⟩:=r
  refine ⟨fun id hid=>?_,?_⟩
  ·cases ap with
   | no=>simp at hid
   | tight=>simp at hid
   | tok i =>
    simp only [] at hid
    split at hid
    ·rename_i hi
     cases hid
     rw [hlen]
     exact (h.cut_leN (n:=n)).τ _ _ _ hi (h1 _ rfl)
    ·cases hid
  ·rcases h2 with ⟨rfl,rfl⟩ | ⟨a,cap,rfl,h3,h4,h5,h6⟩
   ·simp [AV.stills] at e;subst e
    exact .inl ⟨rfl,rfl⟩
   ·refine .inr ⟨a,cap,by rw [hlen],h3,by rw [hlen];exact h4,fun ht=>?_,stills_elems h m es es' _ _ e h6⟩
    rw [hlen]
    cases ap with
    | tight=>exact h5 rfl
    | no=>simp at ht
    | tok i=>simp only [] at ht;split at ht<;>cases ht
 | .sl r m off len cap,v',x,e,q=>by
  simp only [AV.still] at e
  split at e
  ·rename_i hr
   cases e
   simp only [Rep] at q ⊢
   obtain ⟨b,c,h1,h2,h3,h4,k,h5,h6⟩:=q
   exact ⟨b,c,(h.cut_leN (n:=n)).ρ _ _ hr h1,h2,h3,h4,k,(h.cut_leN (n:=n)).sz _ _ hr h5,h6⟩
  ·rename_i hr
   cases hst:st[r]? with
   | none=>simp [hst] at e
   | some ob =>
    cases ob<;>simp only [hst] at e<;>try (cases e;done)
    rename_i ty cs
    split at e
    ·rename_i hh
     obtain ⟨hle,hlow⟩:=hh
     cases e
     simp only [Rep] at q
     obtain ⟨b,c,hb,rfl,hlc,hcap,_⟩:=q
     obtain ⟨b',cc,tt,q1,⟨fr,q2,qfr⟩,q3,q4,q5,_⟩:=h.obj r _ hst
     rw [hb] at q1;cases q1
     have q4':=Reps.low (h.cut_leN (n:=n)) _ _ q4 hlow
     have hck:=Chunks.of_group (J:=J.cut st w n) (m:=m) (agg:=m != 1) (by simp) len (q4'.drop off) (by rw [List.all_eq_true] at q5 ⊢;exact fun z hz=>q5 z (List.mem_of_mem_drop hz)) (by simp;omega)
     have hgl:=group_length m (m != 1) len (cs.drop off)
     simp only [Rep]
     refine ⟨fun id e=>(by cases e),.inr ⟨⟨b,off,none⟩,c,by rw [hgl],fun _=>rfl,by rw [hgl];exact hlc,fun e=>(by cases e),?_⟩⟩
     refine Elems.of_chunks hck (fun i v hv=>?_)
     simp only [Inj.cut]
     rw [if_pos ⟨r,ty,cs,by omega,hst,hb⟩,cell_of_heap q2]
     rw [List.getElem?_take] at hv
     split at hv
     ·rw [List.getElem?_drop,List.getElem?_take] at hv
      split at hv
      ·simpa using hv
      ·cases hv
     ·cases hv
    ·cases e
 | .bool b,v',x,e,r=>by simp [AV.still,AV.lowB] at e;subst e;exact Rep.low (h.cut_leN (n:=n)) _ _ r rfl
 | .int k i,v',x,e,r=>by simp [AV.still,AV.lowB] at e;subst e;exact Rep.low (h.cut_leN (n:=n)) _ _ r rfl
 | .str s,v',x,e,r=>by simp [AV.still,AV.lowB] at e;subst e;exact Rep.low (h.cut_leN (n:=n)) _ _ r rfl
 | .func f a b,v',x,e,r=>by
  simp only [AV.still] at e
  split at e
  ·rename_i hl;cases e;exact Rep.low (h.cut_leN (n:=n)) _ _ r hl
  ·cases e
 | .nilFunc,v',x,e,r=>by simp [AV.still,AV.lowB] at e;subst e;exact Rep.low (h.cut_leN (n:=n)) _ _ r rfl
 | .iface t u,v',x,e,r=>by
  simp only [AV.still] at e
  split at e
  ·rename_i hl;cases e;exact Rep.low (h.cut_leN (n:=n)) _ _ r hl
  ·cases e
 | .nilIface,v',x,e,r=>by simp [AV.still,AV.lowB] at e;subst e;exact Rep.low (h.cut_leN (n:=n)) _ _ r rfl
 | .ptr q off,v',x,e,r=>by
  simp only [AV.still] at e
  split at e
  ·rename_i hl;cases e;exact Rep.low (h.cut_leN (n:=n)) _ _ r hl
  ·cases e
 | .iptr u,v',x,e,r=>by
  simp only [AV.still] at e
  split at e
  ·rename_i hl;cases e;exact Rep.low (h.cut_leN (n:=n)) _ _ r hl
  ·cases e
 | .nilPtr,v',x,e,r=>by simp [AV.still,AV.lowB] at e;subst e;exact Rep.low (h.cut_leN (n:=n)) _ _ r rfl
 | .map q,v',x,e,r=>by
  simp only [AV.still] at e
  split at e
  ·rename_i hl;cases e;exact Rep.low (h.cut_leN (n:=n)) _ _ r hl
  ·cases e
 | .nilMap,v',x,e,r=>by simp [AV.still,AV.lowB] at e;subst e;exact Rep.low (h.cut_leN (n:=n)) _ _ r rfl
 | .nilSl,v',x,e,r=>by simp [AV.still,AV.lowB] at e;subst e;exact Rep.low (h.cut_leN (n:=n)) _ _ r rfl
 | .any,v',x,e,r=>by simp [AV.still,AV.lowB] at e;subst e;exact Rep.low (h.cut_leN (n:=n)) _ _ r rfl
theorem stills_reps (h:Sim K base J st w):∀(vs vs':List AV) (xs:List Value),AV.stills n st vs=some vs'→Reps J vs xs→Reps (J.cut st w n) vs' xs
 | [],vs',xs,e,r=>by simp [AV.stills] at e;subst e;simpa [Reps] using r
 | v::vs,vs',xs,e,r=>by
  simp only [AV.stills] at e
  split at e
  ·rename_i u us e1 e2
   cases e
   simp only [Reps] at r ⊢
   obtain ⟨y,ys,rfl,h1,h2⟩:=r
   exact ⟨y,ys,rfl,still_rep h v u _ e1 h1,stills_reps h vs us _ e2 h2⟩
  ·cases e
theorem stills_length:∀(vs vs':List AV),AV.stills n st vs=some vs'→vs'.length=vs.length
 | [],vs',e=>by simp [AV.stills] at e;subst e;rfl
 | v::vs,vs',e=>by
  simp only [AV.stills] at e
  split at e
  ·rename_i u us e1 e2
   cases e
   simp [stills_length vs us e2]
  ·cases e
theorem stills_cell:∀(vs vs':List AV),AV.stills n st vs=some vs'→vs.all AV.isCell=true→vs'.all AV.isCell=true
 | [],vs',e,_=>by simp [AV.stills] at e;subst e;rfl
 | v::vs,vs',e,hc=>by
  simp only [AV.stills] at e
  simp only [List.all_cons,Bool.and_eq_true] at hc
  split at e
  ·rename_i u us e1 e2
   cases e
   simp only [List.all_cons,Bool.and_eq_true]
   exact ⟨still_cell v u e1 hc.1,stills_cell vs us e2 hc.2⟩
  ·cases e
theorem still_cell:∀(v v':AV),AV.still n st v=some v'→v.isCell=true→v'.isCell=true
 | .agg _,_,_,hc=>by simp [AV.isCell] at hc
 | .tup _,_,_,hc=>by simp [AV.isCell] at hc
 | .lst m es ap,v',e,_=>by
  simp only [AV.still,Option.map_eq_some_iff] at e
  obtain ⟨es',_,rfl⟩:=e;rfl
 | .sl r m off len cap,v',e,_=>by
  simp only [AV.still] at e
  split at e
  ·cases e;rfl
  ·split at e
   ·split at e
    ·cases e;rfl
    ·cases e
   ·cases e
 | .bool b,v',e,_=>by simp [AV.still,AV.lowB] at e;subst e;rfl
 | .int k i,v',e,_=>by simp [AV.still,AV.lowB] at e;subst e;rfl
 | .str s,v',e,_=>by simp [AV.still,AV.lowB] at e;subst e;rfl
 | .func f a b,v',e,_=>by simp only [AV.still] at e;split at e;cases e;rfl;cases e
 | .nilFunc,v',e,_=>by simp [AV.still,AV.lowB] at e;subst e;rfl
 | .iface t u,v',e,_=>by simp only [AV.still] at e;split at e;cases e;rfl;cases e
 | .nilIface,v',e,_=>by simp [AV.still,AV.lowB] at e;subst e;rfl
 | .ptr q off,v',e,_=>by simp only [AV.still] at e;split at e;cases e;rfl;cases e
 | .iptr u,v',e,_=>by simp only [AV.still] at e;split at e;cases e;rfl;cases e
 | .nilPtr,v',e,_=>by simp [AV.still,AV.lowB] at e;subst e;rfl
 | .map q,v',e,_=>by simp only [AV.still] at e;split at e;cases e;rfl;cases e
 | .nilMap,v',e,_=>by simp [AV.still,AV.lowB] at e;subst e;rfl
 | .nilSl,v',e,_=>by simp [AV.still,AV.lowB] at e;subst e;rfl
 | .any,v',e,_=>by simp [AV.still,AV.lowB] at e;subst e;rfl
theorem stills_elems (h:Sim K base J st w) (m:Nat):∀(es es':List AV) (b o:Nat),AV.stills n st es=some es'→Elems J m es b o→Elems (J.cut st w n) m es' b o
 | [],es',b,o,e,_=>by simp [AV.stills] at e;subst e;simp [Elems]
 | v::vs,es',b,o,e,r=>by
  simp only [AV.stills] at e
  split at e
  ·rename_i u us e1 e2
   cases e
   simp only [Elems] at r ⊢
   obtain ⟨⟨y,h1,h2,h3,h4⟩,h5⟩:=r
   refine ⟨⟨y,still_rep h v u _ e1 h1,still_var v u e1 h2,h3,fun i z hz=>(h.cut_leN (n:=n)).im _ _ _ (h4 i z hz)⟩,stills_elems h m vs us _ _ e2 h5⟩
  ·cases e
theorem still_var:∀(v v':AV),AV.still n st v=some v'→v.isVar=true→v'.isVar=true
 | .tup _,_,_,hc=>by simp [AV.isVar] at hc
 | .agg cs,v',e,_=>by
  simp only [AV.still,Option.map_eq_some_iff] at e
  obtain ⟨es',_,rfl⟩:=e;rfl
 | .lst m es ap,v',e,_=>by
  simp only [AV.still,Option.map_eq_some_iff] at e
  obtain ⟨es',_,rfl⟩:=e;rfl
 | .sl r m off len cap,v',e,_=>by
  simp only [AV.still] at e
  split at e
  ·cases e;rfl
  ·split at e
   ·split at e
    ·cases e;rfl
    ·cases e
   ·cases e
 | .bool b,v',e,_=>by simp [AV.still,AV.lowB] at e;subst e;rfl
 | .int k i,v',e,_=>by simp [AV.still,AV.lowB] at e;subst e;rfl
 | .str s,v',e,_=>by simp [AV.still,AV.lowB] at e;subst e;rfl
 | .func f a b,v',e,_=>by simp only [AV.still] at e;split at e;cases e;rfl;cases e
 | .nilFunc,v',e,_=>by simp [AV.still,AV.lowB] at e;subst e;rfl
 | .iface t u,v',e,_=>by simp only [AV.still] at e;split at e;cases e;rfl;cases e
 | .nilIface,v',e,_=>by simp [AV.still,AV.lowB] at e;subst e;rfl
 | .ptr q off,v',e,_=>by simp only [AV.still] at e;split at e;cases e;rfl;cases e
 | .iptr u,v',e,_=>by simp only [AV.still] at e;split at e;cases e;rfl;cases e
 | .nilPtr,v',e,_=>by simp [AV.still,AV.lowB] at e;subst e;rfl
 | .map q,v',e,_=>by simp only [AV.still] at e;split at e;cases e;rfl;cases e
 | .nilMap,v',e,_=>by simp [AV.still,AV.lowB] at e;subst e;rfl
 | .nilSl,v',e,_=>by simp [AV.still,AV.lowB] at e;subst e;rfl
 | .any,v',e,_=>by simp [AV.still,AV.lowB] at e;subst e;rfl
end
theorem settle_sim {J0:Inj} {st0:St} {w0:World} {v v':AV} {x:Value} {st':St} (h0:Sim K base J0 st0 w0) (hJ:J0.le J) (h:Sim K base J st w) (hs:settle st0.length v st=some (v',st')) (hr:Rep J v x) :
  ∃J',J0.le J'∧Sim K base J' st' w∧Rep J' v' x:=by
 unfold settle at hs
 split at hs
 ·rename_i u hu
  split at hs
  ·rename_i hl
   cases hs
   refine ⟨J.cut st w st0.length,?_,h.cut hl,still_rep h _ _ _ hu hr⟩
   have hle:=h.cut_leN (n:=st0.length)
   exact ⟨fun r b e=>hle.ρ _ _ (h0.ρlt r b e).1 (hJ.ρ _ _ e),fun i k v e=>hle.τ _ _ _ (h0.τlt i k v e).1 (hJ.τ _ _ _ e),fun b o v e=>hle.im _ _ _ (hJ.im _ _ _ e),
    fun r n e=>hle.sz _ _ (by obtain ⟨b,hb⟩:=J0.szρ _ _ e;exact (h0.ρlt r b hb).1) (hJ.sz _ _ e)⟩
  ·cases hs
 ·cases hs
end
end Go.Proofs.YtgkhmmlemgikjaaGreatDoor.Ai
namespace Go.Proofs.YtgkhmmlemgikjaaGreatDoor.Ai
open Go
abbrev FW:Fence:=Fence.wide
def SitesOf (P:Program) (gl:List (Nat×AV)) (A:AProg):Sites:=fun f site asg body =>
 ∃F a b,A.fn f=some F∧F.sites[site]?=some (a,b)∧codeFits P gl F.sites asg a=true∧codeFits P gl F.sites body b=true∧Go.Reach.defers asg=false∧Go.Reach.defers body=false
structure FrRep (J:Inj) (fr:Fr) (a:Act):Prop where
 env:Reps J fr.env a.tmps.toList
 defs:DefReps J fr.defs a.defers
theorem FrRep.mono {J J':Inj} (h:J.le J') {fr:Fr} {a:Act} (r:FrRep J fr a):FrRep J' fr a:=⟨Reps.mono h _ _ r.env,r.defs.mono h⟩
def exitIs (J:Inj) (np:Bool) (x:AEx) (env:Env) (e:Exit) (a:Act):Prop :=
 match x with
 | .nrm=>e=.normal∧Reps J env a.tmps.toList
 | .exit id=>e=.exit id∧Reps J env a.tmps.toList
 | .ret=>e=.ret∧Reps J env a.tmps.toList
 | .pan v=>(∃z,Rep J v z∧e=.panic [{ v:=z,recovered:=false }])∧(np=true→Reps J env a.tmps.toList)
def Post (K:Sites) (base:Bs) (J:Inj) (np:Bool) (r:Res) (e:Exit) (a:Act) (w:World):Prop :=
 ∃J',J.le J'∧Sim K base J' r.st w∧DefReps J' r.fr.defs a.defers∧exitIs J' np r.x r.fr.env e a
theorem Post.le {K:Sites} {base:Bs} {J J':Inj} (h:J.le J') {np:Bool} {r:Res} {e:Exit} {a:Act} {w:World} (p:Post K base J' np r e a w):Post K base J np r e a w :=
 let ⟨J2,h1,h2⟩:=p;⟨J2,h.trans h1,h2⟩
def FenceOk (J:Inj) (F:Fence):Option Nat→Prop
 | none=>F=FW
 | some r=>∃l,J.ρ r=some l∧F=FW.inRound l
theorem FenceOk.mono {J J':Inj} (h:J.le J') {F:Fence}:∀{r:Option Nat},FenceOk J F r→FenceOk J' F r
 | none,e=>e
 | some _,⟨l,hl,e⟩=>⟨l,h.ρ _ _ hl,e⟩
theorem FenceOk.fn {J:Inj} {F:Fence} {r:Option Nat} (h:FenceOk J F r) (f:FuncId):F.fn f:=by
 cases r with
 | none=>rw [show F=FW from h];trivial
 | some r=>obtain ⟨l,_,rfl⟩:=h;trivial
theorem FenceOk.depth {J:Inj} {F:Fence} {r:Option Nat} (h:FenceOk J F r):F.depth.isSome=true→1≤0:=by
 cases r with
 | none=>rw [show F=FW from h];intro h;cases h
 | some r=>obtain ⟨l,_,rfl⟩:=h;intro h;cases h
def Ends (K:Sites) (base:Bs) (J:Inj) (r:Res) (e:Ending) (w:World):Prop :=
 ∃J',J.le J'∧Sim K base J' r.st w ∧
  (match r.x with
   | .ret=>∃v z,r.fr.env=[v]∧Rep J' v z∧e=.returned z
   | .pan v=>∃z,Rep J' v z∧e=.panicked [{ v:=z,recovered:=false }]
   | _=>False)
def CallDone (P:Program) (f:FuncId) (cargs:Array Value) (w:World) (R:Ending→World→Prop):Prop :=
 ((callFunc f cargs).run P w=.ok (.enter f cargs) w∧CallsIn FW 0 P f cargs w R)∨∃z w',(callFunc f cargs).run P w=.ok (.value z) w'∧R (.returned z) w'
def LoopHead (F:Fence) (P:Program) (c:Code) (Q:Exit→Act→World→Prop) (a:Act) (w:World):Prop :=
 ∀(b:Frame) (k:List Item) (cs:List Frame),b.roundOf=F.round→F.fn b.fn→F.room (cs.length+1+0) →
  ∃e a' w',Q e a' w'∧ArrivesIn (Machine.fenced P F) P (lone (b.atR a (.code c::.inLoop c::k)) cs w) b k cs e a' w'
theorem wpIn_loopHead {F:Fence} {P:Program} {c:Code} {Q:Exit→Act→World→Prop} {a:Act} {w:World} (h:LoopHead F P c Q a w):(Code.loop c).wpIn F 0 P Q a w:=by
 intro b k cs hro hb hr
 obtain ⟨e,a',w',hq,harr⟩:=h b k cs hro hb hr
 exact ⟨e,a',w',hq,.of_steps (.one (fenced_calm hb hr rfl) stepR_loop) harr⟩
theorem loopHead_round {F:Fence} {P:Program} {c:Code} {Q:Exit→Act→World→Prop} {a:Act} {w:World} (h:c.wpIn F 0 P (Exit.then (LoopHead F P c Q) Q) a w):LoopHead F P c Q a w:=by
 intro b k cs hro hb hr
 obtain ⟨e,a₁,w₁,hq,harr⟩:=h b (.inLoop c::k) cs hro hb hr
 cases e with
 | normal =>
  obtain ⟨e₂,a₂,w₂,hq₂,harr₂⟩:=hq b k cs hro hb hr
  exact ⟨e₂,a₂,w₂,hq₂,.of_steps (StepsIn.trans harr (.one (fenced_calm hb hr rfl) stepR_inLoop)) harr₂⟩
 | exit id=>exact ⟨_,a₁,w₁,hq,.pass (x:=.inLoop c) rfl (fun _ _=>.inl (by simp)) harr⟩
 | goto l=>exact ⟨_,a₁,w₁,hq,.pass (x:=.inLoop c) rfl (fun _ _=>.inl (by simp)) harr⟩
 | ret=>exact ⟨_,a₁,w₁,hq,.pass (x:=.inLoop c) rfl (fun _ _=>.inl (by simp)) harr⟩
 | panic ch=>exact ⟨_,a₁,w₁,hq,.pass (x:=.inLoop c) rfl (fun _ _=>.inl (by simp)) harr⟩
 | outgrown=>exact ⟨_,a₁,w₁,hq,.pass (x:=.inLoop c) rfl (fun _ _=>.inl (by simp)) harr⟩
section
def GOk (B:World→Prop) (gl:List (Nat×AV)) (base:Bs) (J:Inj):Prop:=GlOk gl J∧B base.toWorld
theorem GOk.mono {B:World→Prop} {gl:List (Nat×AV)} {base:Bs} {J J':Inj} (h:GOk B gl base J) (hJ:J.le J'):GOk B gl base J':=⟨h.1.mono hJ,h.2⟩
variable (P:Program) (gl:List (Nat×AV)) (A:AProg) (B:World→Prop)
def TaskOk:Task→St→Res→Prop
 | .call f args,st,r=>∀base J w (cargs:Array Value),Sim (SitesOf P gl A) base J st w→GOk B gl base J→Reps J args cargs.toList→CallDone P f cargs w (Ends (SitesOf P gl A) base J r)
 | .seqc f args,st,r=>∀base J w (cargs:Array Value),Sim (SitesOf P gl A) base J st w→GOk B gl base J→Reps J args cargs.toList →
   (callFunc f cargs).run P w=.ok (.enter f cargs) w∧CallsIn FW 0 P f cargs w (Ends (SitesOf P gl A) base J r)
 | .round q args,st,r=>∀base J w (cargs:Array Value) l,Sim (SitesOf P gl A) base J st w→GOk B gl base J→J.ρ q=some l→Reps J args cargs.toList →
   ∃f tmps asg body,(Instr.yield l cargs).run P w=.ok (.round l f tmps asg body) w∧RoundIn FW 0 P l f tmps asg body w (Ends (SitesOf P gl A) base J r)
 | .loop f rnd body fr,st,r=>∀F code,A.fn f=some F→codeFits P gl F.sites code body=true→(rnd=none∨Go.Reach.defers code=false)→∀np,(np=true→body.noPlan=true)→∀base J w a G,FenceOk J G rnd→Sim (SitesOf P gl A) base J st w→GOk B gl base J→FrRep J fr a →
   LoopHead G P code (Post (SitesOf P gl A) base J np r) a w
variable {P gl A B}
theorem wanted_of {ops:Array Oper} {o:Oper} {ao:AOper} {J:Inj} {e:Env} {a:Act} {b:Bool} (hf:operFits P gl ops o ao=true) (hE:Reps J e a.tmps.toList) (h:wantedA ao.guard e=some b) :
  Region.wanted o (yielded ops a.tmps)=b:=by
 simp only [operFits,Bool.and_eq_true] at hf
 obtain ⟨_,hg⟩:=hf
 unfold wantedA at h
 cases hog:o.guard with
 | none =>
  cases hag:ao.guard with
  | none=>simp [hag] at h;subst h;simp [Region.wanted,hog]
  | some p=>simp [hog,hag] at hg
 | some p =>
  obtain ⟨j,wt⟩:=p
  cases hag:ao.guard with
  | none=>simp [hog,hag] at hg
  | some q =>
   obtain ⟨t,wt'⟩:=q
   simp only [hog,hag,Bool.and_eq_true,beq_iff_eq] at hg
   obtain ⟨rfl,hd⟩:=hg
   simp only [hag] at h
   simp only [Region.wanted,hog,yielded,hd,Option.bind_some]
   cases het:e[t]? with
   | none=>simp [het] at h
   | some u =>
    obtain ⟨x,hx,hr⟩:=hE.get t u het
    have hx':a.tmps[t]?=some x:=by simpa using hx
    simp only [het] at h
    cases u with
    | bool bb =>
     simp at h;subst h
     simp only [Rep] at hr;subst hr
     simp [hx']
    | tup vs =>
     cases vs with
     | nil =>
      simp at h;subst h
      simp only [Rep] at hr
      obtain ⟨arr,rfl,_⟩:=hr
      simp [hx']
     | cons _ _=>simp at h
    | _=>simp at h
theorem put_rep {J:Inj} {fr:Fr} {a:Act} {d:Option Nat} {v:AV} {x:Value} (h:FrRep J fr a) (hr:Rep J v x):FrRep J { fr with env:=setDst d fr.env v } (a.put d x):=by
 cases d with
 | none=>exact h
 | some d =>
  refine ⟨?_,h.defs⟩
  simp only [setDst,Act.put,Array.toList_setIfInBounds]
  exact h.env.set d hr
theorem put_same {o:Oper} {a:Act} {v:Value}:∀i,o.dst≠some i→(a.put o.dst v).tmps[i]?=a.tmps[i]?:=by
 intro i hi
 cases hd:o.dst with
 | none=>rfl
 | some d =>
  have:d≠i:=by rintro rfl;exact hi hd
  simp [Act.put,Array.getElem?_setIfInBounds,this]
variable {g:Task→St→Option Res}
theorem doOp_ok (G:∀t st r,g t st=some r→TaskOk P gl A B t st r) {F:Fence} {rnd:Option Nat} {base:Bs} {J:Inj} {w:World} {a:Act} {fr:Fr} {st:St} {ops:Array Oper} {o:Oper} {ao:AOper} {r:Res}
  (hF:FenceOk J F rnd) (hS:Sim (SitesOf P gl A) base J st w) (hG:GOk B gl base J) (hR:FrRep J fr a) (hf:operFits P gl ops o ao=true) (hN:rnd=none∨∀c,o.op≠.defer c)
  (h:doOp g ao fr st=some r) (next:Act→World→Prop) (Q:Exit→Act→World→Prop)
  (hn:r.x=.nrm→∀J' a' w',J.le J'→Sim (SitesOf P gl A) base J' r.st w'→FrRep J' r.fr a'→(∀i,o.dst≠some i→a'.tmps[i]?=a.tmps[i]?)→next a' w')
  (hp:∀v,r.x=.pan v→∀J' z w',J.le J'→Sim (SitesOf P gl A) base J' r.st w'→DefReps J' r.fr.defs a.defers→Rep J' v z→Reps J' r.fr.env a.tmps.toList→Q (.panic [{ v:=z,recovered:=false }]) a w') :
  if Region.wanted o (yielded ops a.tmps)=true then o.wpIn F 0 P a w next Q else next (a.put o.dst Go.undef) w:=by
 unfold doOp at h
 have hf':=hf
 simp only [operFits,Bool.and_eq_true,beq_iff_eq] at hf'
 obtain ⟨⟨hdst,hop⟩,_⟩:=hf'
 cases hw:wantedA ao.guard fr.env with
 | none=>simp [hw] at h
 | some b =>
  rw [wanted_of hf hR.env hw]
  cases b with
  | false =>
   simp [hw] at h;subst h
   simp only [Bool.false_eq_true,if_false]
   refine hn rfl J _ w (Inj.le.refl J) hS ?_ ?_
   ·rw [hdst];exact put_rep hR Rep.undef
   ·exact put_same
  | true =>
   simp only [if_true]
   simp only [hw] at h
   cases hoa:opA ao.op fr.env st with
   | none=>simp [hoa] at h
   | some nx =>
    have hsem:Oper.semAt F.round a.eval o=execOp a.eval o:=by
     rcases hN with rfl | hN
     ·rw [show F=FW from hF];rfl
     ·exact Oper.semAt_eq _ _ _ hN
    refine ⟨fun f _=>hF.fn f,?_⟩
    rw [hsem]
    simp only [hoa] at h
    cases nx with
    | val v st' =>
     simp only [Option.some.injEq] at h;subst h
     obtain ⟨J',w',x,hle,hS',hr,hrun | ⟨hrun,rfl⟩⟩:=op_val hS hR.env hG.1 hop hoa
     ·rw [hrun,Oper.uponIn_value]
      exact hn rfl J' _ w' hle hS' (by rw [hdst];exact put_rep (hR.mono hle) hr) put_same
     ·rw [hrun,Oper.uponIn_skip]
      exact hn rfl J' _ w' hle hS' (by rw [hdst];exact put_rep (hR.mono hle) hr) put_same
    | pan v =>
     simp only [Option.some.injEq] at h;subst h
     obtain ⟨x,hr,hrun⟩:=op_pan (w:=w) hR.env hG.1 hop hoa
     rw [hrun,Oper.uponIn_panic]
     exact hp v rfl J x w (Inj.le.refl J) hS hR.defs hr hR.env
    | defer d =>
     simp only [Option.some.injEq] at h;subst h
     obtain ⟨cd,hdr,hrun⟩:=op_defer (w:=w) hR.env hG.1 hop hoa
     rw [hrun,Oper.uponIn_defer]
     refine hn rfl J _ w (Inj.le.refl J) hS ?_ (put_same (a:={ a with defers:=cd::a.defers }))
     rw [hdst]
     exact put_rep (fr:=⟨fr.env,d::fr.defs⟩) (a:={ a with defers:=cd::a.defers }) ⟨hR.env,⟨cd,a.defers,rfl,hdr,hR.defs⟩⟩ Rep.undef
    | call f args =>
     obtain ⟨y,ys,hyy⟩:=call_only hoa
     rw [hyy] at hoa hop
     obtain ⟨cargs,hcr,hrun⟩:=op_call (w:=w) hR.env hG.1 hop hoa
     simp only [] at h
     cases hg:g (.call f args) st with
     | none=>simp [hg] at h
     | some q =>
      have hq:=G _ _ _ hg base J w cargs hS hG hcr
      rw [hrun]
      obtain ⟨qx,⟨qenv,qd⟩,qst⟩:=q
      rcases hq with ⟨he,hcall⟩ | ⟨z,w',he,hends⟩
      ·rw [he,Oper.uponIn_enter]
       refine ⟨hF.depth,?_⟩
       have hcall':CallsIn F 0 P f cargs w (Ends (SitesOf P gl A) base J ⟨qx,⟨qenv,qd⟩,qst⟩):=by
        cases rnd with
        | none=>rw [show F=FW from hF];exact hcall
        | some rr=>obtain ⟨l,_,rfl⟩:=hF;exact hcall
       refine CallsIn.mono hcall' ?_
       rintro e w' ⟨J',hle,hS',hx⟩
       cases qx with
       | nrm=>exact hx.elim
       | exit id=>exact hx.elim
       | ret =>
        obtain ⟨v,z,henv,hr,rfl⟩:=hx
        simp only [] at henv;subst henv
        simp [hg] at h;subst h
        exact hn rfl J' _ w' hle hS' (by rw [hdst];exact put_rep (hR.mono hle) hr) put_same
       | pan v =>
        obtain ⟨z,hr,rfl⟩:=hx
        simp [hg] at h;subst h
        exact hp v rfl J' z w' hle hS' (hR.defs.mono hle) hr (Reps.mono hle _ _ hR.env)
      ·rw [he,Oper.uponIn_value]
       obtain ⟨J',hle,hS',hx⟩:=hends
       cases qx with
       | nrm=>exact hx.elim
       | exit id=>exact hx.elim
       | ret =>
        obtain ⟨v,z',henv,hr,hz⟩:=hx
        cases hz
        simp only [] at henv;subst henv
        simp [hg] at h;subst h
        exact hn rfl J' _ w' hle hS' (by rw [hdst];exact put_rep (hR.mono hle) hr) put_same
       | pan v =>
        obtain ⟨z',hr,hz⟩:=hx
        cases hz
    | round q args =>
     obtain ⟨y,ys,hyy⟩:=round_only hoa
     rw [hyy] at hoa hop
     obtain ⟨cargs,l,hl,hcr,hrun⟩:=op_round (w:=w) hR.env hG.1 hop hoa
     simp only [] at h
     cases hg:g (.round q args) st with
     | none=>simp [hg] at h
     | some q' =>
      obtain ⟨f,tmps,asg,body,hy,hround⟩:=G _ _ _ hg base J w cargs l hS hG hl hcr
      rw [hrun,hy,Oper.uponIn_round]
      obtain ⟨qx,⟨qenv,qd⟩,qst⟩:=q'
      refine ⟨hF.depth,?_⟩
      have hround':RoundIn F 0 P l f tmps asg body w (Ends (SitesOf P gl A) base J ⟨qx,⟨qenv,qd⟩,qst⟩):=by
       cases rnd with
       | none=>rw [show F=FW from hF];exact hround
       | some rr=>obtain ⟨l',_,rfl⟩:=hF;exact hround
      refine RoundIn.mono hround' ?_
      rintro e w' ⟨J',hle,hS',hx⟩
      cases qx with
      | nrm=>exact hx.elim
      | exit id=>exact hx.elim
      | ret =>
       obtain ⟨v,z,henv,hr,rfl⟩:=hx
       simp only [] at henv;subst henv
       simp [hg] at h;subst h
       exact hn rfl J' _ w' hle hS' (by rw [hdst];exact put_rep (hR.mono hle) hr) put_same
      | pan v =>
       obtain ⟨z,hr,rfl⟩:=hx
       simp [hg] at h;subst h
       exact hp v rfl J' z w' hle hS' (hR.defs.mono hle) hr (Reps.mono hle _ _ hR.env)
end
end Go.Proofs.YtgkhmmlemgikjaaGreatDoor.Ai
namespace Go.Proofs.YtgkhmmlemgikjaaGreatDoor.Ai
open Go
section
variable {P:Program} {gl:List (Nat×AV)} {A:AProg} {B:World→Prop} {g:Task→St→Option Res}
def IdxFit (P:Program) (gl:List (Nat×AV)) (ops:Array Oper):List (Nat×Nat)→List Nat→List AOper→Prop
 | _,[],as=>as=[]
 | PD,i::is,as=>∃a as' o,as=a::as'∧ops[i]?=some o ∧
   ((operFits P gl ops o a = true ∧ (∀ p ∈ PD, o.dst ≠ some p.1) ∧ IdxFit P gl ops ((isV a).toList ++ PD) is as') ∨
    (vsFits P gl o a=true∧∃p,vsOf a=some p∧p∈PD∧IdxFit P gl ops (PD.filter fun q=>q.1 != p.1) is as'))
structure Pd where
 d:Nat
 m:Nat
 b:Nat
 c:Array Value
 t:TypeId
structure PdOk (base base':Bs) (PD:List Pd) (a:Act) (w:World):Prop where
 W:base'.toWorld=base.toWorld
 hid:∀b,base'.hid b↔base.hid b∨∃p∈PD,p.b=b
 snap:∀b,base.hid b→base'.snap b=base.snap b
 old:∀p∈PD,¬base.hid p.b∧base.heap.size≤p.b∧base'.snap p.b=some (.cells p.c p.t (0,0))∧p.c.size=p.m
 tmp:∀p∈PD,p.d<a.tmps.size→a.tmps[p.d]?=some (.pointer (some ⟨p.b,0,none⟩))
 uniq:∀p∈PD,∀q∈PD,p.b=q.b→p.d=q.d
theorem PdOk.nil (base:Bs) (a:Act) (w:World):PdOk base base [] a w:=⟨rfl,fun b=>by simp,fun _ _=>rfl,by simp,by simp,by simp⟩
theorem Sim.unhide {K:Sites} {base base':Bs} {J:Inj} {st:St} {w:World} {PD:List Pd} {a:Act} {w0:World} (hp:PdOk base base' PD a w0) (h:Sim K base' J st w):Sim K base J st w where
 os:=by rw [h.os,hp.W]
 output:=by rw [h.output,hp.W]
 size:=by rw [←hp.W];exact h.size
 old:=fun b hb=>by rw [←hp.W] at hb ⊢;exact h.old b hb
 imOk:=h.imOk
 ρlt:=h.ρlt
 τlt:=h.τlt
 obj:=h.obj
 own:=fun r o b e e'=>by rw [←hp.W];exact h.own r o b e e'
 noIm:=h.noIm
 hid:=fun b hb=>by
  obtain ⟨h1,h2,h3⟩:=h.hid b ((hp.hid b).2 (.inl hb))
  exact ⟨h1,by rw [h2,hp.snap b hb],h3⟩
theorem Sim.hideNew {K:Sites} {base base':Bs} {J:Inj} {st:St} {w:World} {PD:List Pd} {a:Act} {c:Array Value} {t:TypeId} {d m:Nat} {o:Oper} (hp:PdOk base base' PD a w) (h:Sim K base' J st w) (hc:c.size=m) (hd:o.dst=some d)
  (hn:∀p∈PD,p.d≠d) :
  ∃base2,PdOk base base2 (⟨d,m,w.heap.size,c,t⟩::PD) (a.put o.dst (.pointer (some ⟨w.heap.size,0,none⟩))) { w with heap:=w.heap.push (.cells c t (0,0)) } ∧
   Sim K base2 J st { w with heap:=w.heap.push (.cells c t (0,0)) }:=by
 have hnew:∀b,base'.hid b→b≠w.heap.size:=fun b hb=>Nat.ne_of_lt (h.hid b hb).1
 refine ⟨{ base' with hid:=fun b=>base'.hid b∨b=w.heap.size,snap:=fun b=>if b=w.heap.size then some (.cells c t (0,0)) else base'.snap b },⟨hp.W,fun b=>?_,fun b hb=>?_,fun p hpp=>?_,fun p hpp hsz=>?_,fun p hpp q hq e=>?_⟩,?_⟩
 ·show base'.hid b∨b=w.heap.size↔_
  rw [hp.hid b]
  constructor
  ·rintro ((h | ⟨p,h1,h2⟩) | h)
   ·exact .inl h
   ·exact .inr ⟨p,List.mem_cons_of_mem _ h1,h2⟩
   ·exact .inr ⟨_,List.mem_cons_self ..,h.symm⟩
  ·rintro (h | ⟨p,h1,h2⟩)
   ·exact .inl (.inl h)
   ·rcases List.mem_cons.1 h1 with rfl | h1
    ·exact .inr h2.symm
    ·exact .inl (.inr ⟨p,h1,h2⟩)
 ·show (if b=w.heap.size then _ else base'.snap b)=_
  rw [if_neg (hnew b ((hp.hid b).2 (.inl hb)))];exact hp.snap b hb
 ·rcases List.mem_cons.1 hpp with rfl | hpp
  ·refine ⟨fun hb=>hnew _ ((hp.hid _).2 (.inl hb)) rfl,?_,by simp,hc⟩
   show base.heap.size≤w.heap.size
   have:=h.size;rwa [hp.W] at this
  ·obtain ⟨h1,h2,h3,h4⟩:=hp.old p hpp
   refine ⟨h1,h2,?_,h4⟩
   show (if p.b=w.heap.size then _ else base'.snap p.b)=_
   rw [if_neg (hnew _ ((hp.hid _).2 (.inr ⟨p,hpp,rfl⟩)))];exact h3
 ·rcases List.mem_cons.1 hpp with rfl | hpp
  ·simp only [hd,Act.put,Array.size_setIfInBounds] at hsz ⊢
   simp [Array.getElem?_setIfInBounds,hsz]
  ·have:=hn p hpp
   rw [put_same _ (by rw [hd];intro e;cases e;exact this rfl)]
   exact hp.tmp p hpp (by simpa [hd,Act.put] using hsz)
 ·have hb:∀p∈PD,p.b≠w.heap.size:=fun p hp'=>hnew _ ((hp.hid _).2 (.inr ⟨p,hp',rfl⟩))
  rcases List.mem_cons.1 hpp with rfl | hpp<;>rcases List.mem_cons.1 hq with rfl | hq
  ·rfl
  ·exact absurd e.symm (hb q hq)
  ·exact absurd e (hb p hpp)
  ·exact hp.uniq p hpp q hq e
 ·have hq:=h.push (.cells c t (0,0))
  refine { hq with hid:=fun b hb=>?_ }
  rcases hb with hb | rfl
  ·obtain ⟨h1,h2,h3⟩:=hq.hid b hb
   refine ⟨h1,?_,h3⟩
   show _=(if b=w.heap.size then _ else base'.snap b)
   rw [if_neg (hnew b hb)];exact h2
  ·refine ⟨by show _<(w.heap.push _).size;simp,?_,fun k v hv=>?_,fun r o e e'=>?_⟩
   ·show (w.heap.push _)[w.heap.size]?=(if _ then _ else _);simp
   ·rw [h.imnew (Nat.le_refl _)] at hv;cases hv
   ·exact absurd (h.own r o _ e e').2.1 (Nat.lt_irrefl _)
theorem Sim.reveal {K:Sites} {base base':Bs} {J:Inj} {st:St} {w w':World} {PD:List Pd} {a:Act} {p:Pd} (hp:PdOk base base' PD a w) (h:Sim K base' J st w) (hpp:p∈PD) {c:Array Value}
  (hos:w'.os=w.os) (hout:w'.output=w.output) (hsz:w'.heap.size=w.heap.size) (hoth:∀b,b≠p.b→w'.heap[b]?=w.heap[b]?) {t:TypeId} (hb:w'.heap[p.b]?=some (.cells c t (0,0))) :
  J.le (J.stay p.b c)∧∃base2,PdOk base base2 (PD.filter fun q=>q.d != p.d) a w'∧Sim K base2 (J.stay p.b c) st w':=by
 obtain ⟨f1,f2,f3,f4⟩:=h.hid p.b ((hp.hid _).2 (.inr ⟨p,hpp,rfl⟩))
 have hle:J.le (J.stay p.b c):=⟨fun _ _ e=>e,fun _ _ _ e=>e,fun b o v e=>by
  show (if b=p.b then c[o]? else J.im b o)=some v
  rw [if_neg (by rintro rfl;exact f3 o v e)];exact e,fun _ _ e=>e⟩
 refine ⟨hle,{ base' with hid:=fun b=>base.hid b∨∃q∈PD.filter (fun q=>q.d != p.d),q.b=b },⟨hp.W,fun b=>Iff.rfl,hp.snap,fun q hq=>hp.old q (List.mem_filter.1 hq).1,fun q hq=>hp.tmp q (List.mem_filter.1 hq).1,fun q hq q' hq' e=>hp.uniq q (List.mem_filter.1 hq).1 q' (List.mem_filter.1 hq').1 e⟩,?_⟩
 have hwas:∀b,(base.hid b∨∃q∈PD.filter (fun q=>q.d != p.d),q.b=b)→base'.hid b∧b≠p.b:=by
  intro b hb
  refine ⟨(hp.hid b).2 (hb.imp_right fun ⟨q,h1,h2⟩=>⟨q,(List.mem_filter.1 h1).1,h2⟩),?_⟩
  rintro rfl
  rcases hb with hb | ⟨q,h1,h2⟩
  ·exact (hp.old p hpp).1 hb
  ·have:=hp.uniq q (List.mem_filter.1 h1).1 p hpp h2
   simp [this] at h1
 refine ⟨hos.trans h.os,hout.trans h.output,hsz▸h.size,fun b hb=>?_,fun b o v e=>?_,fun r b e=>hsz▸h.ρlt r b e,h.τlt,fun r o e=>?_,fun r o b e e'=>?_,fun r o b e e' ht k v hv=>?_,fun b hb=>?_⟩
 ·have h2:=(hp.old p hpp).2.1
  have hb':b<base.heap.size:=by have:=hb;rwa [show base'.toWorld=base.toWorld from hp.W] at this
  rw [hoth b (by omega)];exact h.old b hb
 ·by_cases hbb:b=p.b
  ·subst hbb
   rw [cell_of_heap hb]
   simpa [Inj.stay] using e
  ·rw [cell_congr (hoth b hbb)]
   simp [Inj.stay,hbb] at e
   exact h.imOk b o v e
 ·have hne:∀b,ownB J r o=some b→b≠p.b:=fun b hb' e'=>by subst e';exact f4 r o e hb'
  refine (h.obj r o e).frame hle (fun b hb'=>hoth b (hne b hb')) (fun b hb' _ k v hv=>?_)
  simpa [Inj.stay,hne b hb'] using hv
 ·have:=h.own r o b e e'
  exact ⟨this.1,hsz▸this.2.1,this.2.2⟩
 ·have hne:b≠p.b:=fun e''=>by subst e'';exact f4 r o e e'
  simp [Inj.stay,hne] at hv
  exact h.noIm r o b e e' ht k v hv
 ·obtain ⟨h0,hne⟩:=hwas b hb
  obtain ⟨h1,h2,h3,h4⟩:=h.hid b h0
  exact ⟨hsz▸h1,(hoth b hne).trans h2,fun k v hv=>by simp [Inj.stay,hne] at hv;exact h3 k v hv,h4⟩
theorem vstore_run {P:Program} {gl:List (Nat×AV)} {J:Inj} {a:Act} {e:Env} {w:World} {o:Oper} {d m:Nat} {x:AX} {v:AV} (hE:Reps J e a.tmps.toList) (hG:GlOk gl J) {d2:Nat} (hf:vsFits P gl o ⟨some d,.vbox m d2 x,none⟩=true) (hv:x.ev e=v) (hvc:v.cells.length=m∧v.cells.all AV.isCell=true)
  {b:Nat} {c:Array Value} {t:TypeId} (htmp:a.tmps[d]?=some (.pointer (some ⟨b,0,none⟩))) (hb:w.heap[b]?=some (.cells c t (0,0))) (hc:c.size=m) :
  o.dst=none∧o.guard=none∧(∀cc,o.op≠.defer cc)∧∃y w',Rep J v y∧y.cells.size=m∧(execOp a.eval o).run P w=.ok .skip w'∧w'.os=w.os∧w'.output=w.output∧w'.heap.size=w.heap.size∧(∀b',b'≠b→w'.heap[b']?=w.heap[b']?)∧w'.heap[b]?=some (.cells y.cells t (0,0)):=by
 simp only [vsFits,Bool.and_eq_true,beq_iff_eq,Option.isNone_iff_eq_none] at hf
 obtain ⟨⟨⟨rfl,h1⟩,h2⟩,h3⟩:=hf
 cases ho:o.op<;>simp only [ho,Bool.false_eq_true] at h3
 rename_i tt px u
 cases px<;>simp only [Bool.false_eq_true] at h3
 rename_i d'
 simp only [Bool.and_eq_true,beq_iff_eq] at h3
 obtain ⟨⟨rfl,hsz⟩,hx⟩:=h3
 refine ⟨h1,h2,fun cc hcc=>(by cases hcc),?_⟩
 have hr:=xFits_rep hE hG hx
 rw [hv] at hr
 have hcs:=hr.cells
 have hlen:=hcs.length
 have hys:(a.eval u).cells.size=m:=by simp at hlen;omega
 obtain ⟨w',g1,g2,g3,g4,g5,g6⟩:=run_storeCells P ⟨b,0,none⟩ rfl t (0,0) (a.eval u).cells.toList w 0 c hb (Clear.zero _) (by simp;omega) (hcs.oneCells hvc.2)
 refine ⟨a.eval u,w',hr,hys,?_,g2,g3,g4,g5,?_⟩
 ·have hev:a.eval (.tmp d')=.pointer (some ⟨b,0,none⟩):=by
   simp [Act.eval,Array.getD_eq_getD_getElem?,htmp]
  have hsz':¬(a.eval u).cells.size≠m:=by omega
  simp only [execOp,ho,Instr.storeAt,hev,Instr.sureAddr,Sem.run_bind,Sem.run_pure,Result.andThen_ok,storeVar,r_size hsz,hsz',if_false,g1]
 ·rw [g6]
  have:putV c (0+0) (a.eval u).cells.toList=(a.eval u).cells:=by
   apply Array.ext_getElem?
   intro i
   rw [putV_get _ _ _ _ (by simp;omega)]
   by_cases hi:i<(a.eval u).cells.size
   ·simp [hi]
   ·simp [hi];omega
  rw [this]
theorem doOps_ok (G:∀t st r,g t st=some r→TaskOk P gl A B t st r) {F:Fence} {rnd:Option Nat} {base:Bs} {J0:Inj} {ops:Array Oper} {np:Bool} {r:Res} :
  ∀(is:List Nat) (as:List AOper) (PD:List Pd) (base':Bs) (J:Inj) (w:World) (a:Act) (fr:Fr) (st:St),IdxFit P gl ops (PD.map fun p=>(p.d,p.m)) is as→J0.le J→FenceOk J F rnd→(rnd=none∨∀o∈ops.toList,∀c,o.op≠.defer c) →
   PdOk base base' PD a w→Sim (SitesOf P gl A) base' J st w→GOk B gl base J→FrRep J fr a →
   doOps g as fr st=some r→wpOpsIn F 0 P ops (Post (SitesOf P gl A) base J0 np r) is a w
 | [],as,PD,base',J,w,a,fr,st,hi,hJ,hF,hN,hPd,hS,hG,hR,h=>by
  simp only [IdxFit] at hi;subst hi
  simp only [doOps,Option.some.injEq] at h;subst h
  simp only [wpOpsIn]
  exact ⟨J,hJ,hS.unhide hPd,hR.defs,rfl,hR.env⟩
 | i::is,as,PD,base',J,w,a,fr,st,hi,hJ,hF,hN,hPd,hS,hG,hR,h=>by
  obtain ⟨ao,as',o,rfl,ho,hi'⟩:=hi
  simp only [doOps] at h
  simp only [wpOpsIn,ho]
  have hG':GOk B gl base' J:=⟨hG.1,hPd.W▸hG.2⟩
  have hNo:rnd=none∨∀c,o.op≠.defer c:=hN.imp_right fun h=>h o (List.mem_of_getElem? (by simpa using ho))
  cases hd:doOp g ao fr st with
  | none=>simp [hd] at h
  | some q =>
   rcases hi' with ⟨hf,hnd,hi'⟩ | ⟨hf,p0,hp0,hmem,hi'⟩
   ·cases hv:isV ao with
    | none =>
     rw [hv] at hi'
     have key:=doOp_ok G (r:=q) hF hS hG' hR hf hNo hd (wpOpsIn F 0 P ops (Post (SitesOf P gl A) base J0 np r) is) (Post (SitesOf P gl A) base J0 np r)
      (fun hx J' a' w' hle hS' hR' hsame=>by
       obtain ⟨qx,qf,qs⟩:=q
       simp only [] at hx;subst hx
       simp only [hd] at h
       refine doOps_ok G is as' PD base' J' w' a' qf qs hi' (hJ.trans hle) (hF.mono hle) hN ⟨hPd.W,hPd.hid,hPd.snap,hPd.old,fun p hp=>?_,hPd.uniq⟩ hS' (hG.mono hle) hR' h
       intro hsz
       have h0:=hsame p.d (hnd (p.d,p.m) (List.mem_map.2 ⟨p,hp,rfl⟩))
       rw [h0]
       refine hPd.tmp p hp ?_
       have:=(Array.getElem?_eq_some_iff.1 (h0.symm.trans (Array.getElem?_eq_getElem hsz))).1
       exact this)
      (fun v hx J' z w' hle hS' hdf hr hre=>by
       obtain ⟨qx,qf,qs⟩:=q
       simp only [] at hx;subst hx
       simp only [hd,Option.some.injEq] at h;subst h
       exact ⟨J',hJ.trans hle,hS'.unhide hPd,hdf,⟨z,hr,rfl⟩,fun _=>hre⟩)
     by_cases hw:Region.wanted o (yielded ops a.tmps)=true
     ·rw [if_pos hw] at key ⊢;exact key
     ·rw [if_neg hw] at key ⊢;exact ⟨fun f _=>hF.fn f,key⟩
    | some p =>
     rw [hv] at hi'
     obtain ⟨d,m⟩:=p
     have hao:ao=⟨some d,.valloc m,none⟩:=by
      obtain ⟨dst,op,gd⟩:=ao
      unfold isV at hv
      split at hv
      ·rename_i d' m' heq;cases hv;exact heq
      ·cases hv
     subst hao
     have hf':=hf
     simp only [operFits,Bool.and_eq_true,beq_iff_eq] at hf'
     obtain ⟨⟨hdst,hop⟩,hgd⟩:=hf'
     have hgn:o.guard=none:=by
      cases hh:o.guard with
      | none=>rfl
      | some gg=>rw [hh] at hgd;simp at hgd
     have hw:∀y,Region.wanted o y=true:=fun y=>by simp [Region.wanted,hgn]
     rw [if_pos (hw _)]
     rw [hd] at h
     simp only [doOp,wantedA,opA,Option.some.injEq] at hd
     subst hd
     simp only at h
     obtain ⟨c,t,hc,hrun⟩:=valloc_run (P:=P) (a:=a) (w:=w) hop
     have hsem:Oper.semAt F.round a.eval o=execOp a.eval o:=Oper.semAt_eq _ _ _ (by
      intro cc hcc
      rw [hcc] at hop
      simp [opFits] at hop)
     refine ⟨fun f _=>hF.fn f,?_⟩
     rw [hsem,hrun,Oper.uponIn_value]
     have hrep:Rep J .any (.pointer (some ⟨w.heap.size,0,none⟩)):=by simp [Rep,Value.oneCell',Value.cells]
     have hR':FrRep J { fr with env:=setDst (some d) fr.env .any } (a.put o.dst (.pointer (some ⟨w.heap.size,0,none⟩))):=by rw [hdst];exact put_rep hR hrep
     obtain ⟨base2,hp2,hS2⟩:=hS.hideNew (o:=o) (d:=d) (m:=m) (t:=t) hPd hc hdst (fun p hp e=>hnd (p.d,p.m) (List.mem_map.2 ⟨p,hp,rfl⟩) (by rw [hdst,e]))
     exact doOps_ok G is as' _ base2 J _ _ _ st (by simpa using hi') hJ hF hN hp2 hS2 hG hR' h
   ·obtain ⟨p,hp,rfl⟩:=List.mem_map.1 hmem
    have hao:∃d2 x,ao=⟨some p.d,.vbox p.m d2 x,none⟩:=by
     obtain ⟨dst,op,gd⟩:=ao
     unfold vsOf at hp0
     split at hp0
     ·rename_i d' m' d2 x heq
      simp only [Option.some.injEq,Prod.mk.injEq] at hp0
      obtain ⟨rfl,rfl⟩:=hp0
      exact ⟨_,_,heq⟩
     ·cases hp0
    obtain ⟨d2,x,rfl⟩:=hao
    rw [hd] at h
    have hd2:d2=p.d:=by
     have:=hf
     simp only [vsFits,Bool.and_eq_true,beq_iff_eq] at this
     exact this.1.1.1
    subst hd2
    simp only [doOp,wantedA,opA] at hd
    have hany:∃u,AX.ev fr.env (.t p.d)=u:=⟨_,rfl⟩
    obtain ⟨u,hu⟩:=hany
    rw [hu] at hd
    cases u<;>try (simp at hd;done)
    have hlt2:p.d<a.tmps.size:=by
     have h1:=hR.env.length
     simp at h1
     rcases Nat.lt_or_ge p.d fr.env.length with h2 | h2
     ·omega
     ·simp [AX.ev,List.getD_eq_getElem?_getD,List.getElem?_eq_none h2,AV.undef] at hu
    by_cases hvc:(x.ev fr.env).cells.length=p.m∧(x.ev fr.env).cells.all AV.isCell=true
    ·simp only [hvc,and_self,if_true,Option.some.injEq] at hd
     subst hd
     simp only at h
     obtain ⟨k1,k2,k3,k4⟩:=hPd.old p hp
     obtain ⟨e1,e2,e3,e4⟩:=hS.hid p.b ((hPd.hid _).2 (.inr ⟨p,hp,rfl⟩))
     obtain ⟨hdst,hgn,hnd,y,w',hy,hys,hrun,g2,g3,g4,g5,g6⟩:=vstore_run (P:=P) (w:=w) hR.env hG.1 hf rfl hvc (hPd.tmp p hp hlt2) (by rw [e2,k3]) k4
     have hw:∀y,Region.wanted o y=true:=fun y=>by simp [Region.wanted,hgn]
     rw [if_pos (hw _)]
     refine ⟨fun f _=>hF.fn f,?_⟩
     rw [Oper.semAt_eq _ _ _ hnd,hrun,Oper.uponIn_skip]
     obtain ⟨hle,base2,hp2,hS2⟩:=hS.reveal hPd hp g2 g3 g4 g5 g6
     have hput:a.put o.dst Go.undef=a:=by rw [hdst];rfl
     rw [hput]
     have hR':FrRep (J.stay p.b y.cells) { fr with env:=setDst (some p.d) fr.env (.iptr (x.ev fr.env)) } a:=by
      refine ⟨?_,(hR.mono hle).defs⟩
      have hrep:Rep (J.stay p.b y.cells) (.iptr (x.ev fr.env)) (.pointer (some ⟨p.b,0,none⟩)):=by
       simp only [Rep]
       refine ⟨⟨p.b,0,none⟩,y,rfl,rfl,Rep.mono hle _ _ hy,?_,fun i u hu=>?_⟩
       ·have h2:=hvc.2
        cases hx:x.ev fr.env<;>simp [AV.isVar]
        rw [hx] at h2;simp [AV.cells,AV.isCell] at h2
       ·simp only [Inj.stay,if_true,Nat.zero_add];simpa using hu
      have:=(hR.mono hle).env.set p.d hrep
      have hset:a.tmps.toList.set p.d (.pointer (some ⟨p.b,0,none⟩))=a.tmps.toList:=by
       apply List.ext_getElem?
       intro i
       by_cases hi:p.d=i
       ·subst hi
        have ht:=hPd.tmp p hp hlt2
        rw [List.getElem?_set_self (by have:=(Array.getElem?_eq_some_iff.1 ht).1;simpa using this)]
        simpa using ht.symm
       ·rw [List.getElem?_set_ne hi]
      rw [hset] at this
      exact this
     refine doOps_ok G is as' _ base2 _ w' a _ st ?_ (hJ.trans hle) (hF.mono hle) hN hp2 hS2 (hG.mono hle) hR' h
     have:((PD.filter fun q=>q.d != p.d).map fun q=>(q.d,q.m))=(PD.map fun q=>(q.d,q.m)).filter fun q=>q.1 != p.d:=by
      rw [List.filter_map];rfl
     rw [this];exact hi'
    ·rw [if_neg hvc] at hd;cases hd
theorem regFits_idx {ops:Array Oper}:∀(os:List Oper) (as:List AOper) (PD:List (Nat×Nat)) (n:Nat),regFits P gl ops PD os as=true→(∀(i:Nat) o,os[i]?=some o→ops[n+i]?=some o)→IdxFit P gl ops PD ((List.range os.length).map (n+·)) as
 | [],[],_,_,_,_=>rfl
 | [],_::_,_,_,h,_=>by simp [regFits] at h
 | _::_,[],_,_,h,_=>by simp [regFits] at h
 | o::os,a::as,PD,n,h,hg=>by
  have hn:∀(i:Nat) o',os[i]?=some o'→ops[n+1+i]?=some o':=fun i o' e=>by rw [show n+1+i=n+(i+1) by omega];exact hg (i+1) o' (by simpa using e)
  have e:((fun x=>n+x) ∘ Nat.succ)=(fun x=>n+1+x):=by funext x;simp;omega
  rw [List.length_cons,List.range_succ_eq_map,List.map_cons,List.map_map,e]
  refine ⟨a,as,o,rfl,by simpa using hg 0 o (by simp),?_⟩
  simp only [regFits] at h
  split at h
  ·rename_i hf
   simp only [Bool.and_eq_true,List.all_eq_true,bne_iff_ne] at h
   exact .inl ⟨hf,fun p hp=>h.1 p hp,regFits_idx os as _ (n+1) h.2 hn⟩
  ·simp only [Bool.and_eq_true] at h
   obtain ⟨h1,h2⟩:=h
   split at h2
   ·rename_i p hp
    simp only [Bool.and_eq_true,List.contains_iff_mem] at h2
    exact .inr ⟨h1,p,hp,h2.1,regFits_idx os as _ (n+1) h2.2 hn⟩
   ·cases h2
theorem no_defs {id:Nat} {ops:Array Oper} {b:Bool} (h:Go.Reach.defers (.region id ops b)=false):∀o∈ops.toList,∀c,o.op≠.defer c:=by
 intro o ho c hc
 simp only [Go.Reach.defers,Array.any_eq_false'] at h
 have:=h o (by simpa using ho)
 rw [hc] at this
 simp at this
def PlanOk (P:Program) (gl:List (Nat×AV)) (ops:Array Oper) (ss:List AStep):Prop :=
 ∀(g:Task→St→Option Res) (fr:Fr) (st:St) (r:Res) (t:Nat),doSteps g ss ss fr st=some r →
  ∃as r',IdxFit P gl ops [] (Region.schedule true ops t) as∧doOps g as fr st=some r'∧r'.x=r.x∧r'.st=r.st∧r'.fr.defs=r.fr.defs∧((∃v,r.x=.pan v)∨r'.fr=r.fr)
theorem plan_noPan (g:Task→St→Option Res) (all:List AStep):∀(ss:List AStep) (fr:Fr) (st:St) (r:Res),(∀s∈ss,s.o.op.calm=true)→doSteps g all ss fr st=some r→∀v,r.x≠.pan v
 | [],fr,st,r,_,h,v,hv=>by simp only [doSteps,Option.some.injEq] at h;subst h;cases hv
 | s::ss,fr,st,r,hs,h,v,hv=>by
  simp only [doSteps] at h
  have hs0:=hs s (List.mem_cons_self ..)
  cases hd:doOp g s.o fr st with
  | none=>simp [hd] at h
  | some q =>
   obtain ⟨qx,qf,qs⟩:=q
   have hq:qx=.nrm:=by
    unfold doOp at hd
    split at hd
    ·cases hd
    ·cases hd;rfl
    ·split at hd
     ·cases hd
     ·cases hd;rfl
     ·rename_i u hu
      exfalso
      cases hop:s.o.op<;>rw [hop] at hs0 hu<;>first | (simp [AOp.calm] at hs0;done) | skip
      case defer y ys=>simp only [opA] at hu;split at hu<;>simp at hu
      all_goals (obtain ⟨_,_,e⟩:=opA_val (by intro y ys;simp) (by intro y;simp) (by intro y ys;simp) _ hu;cases e)
     ·cases hd;rfl
     all_goals
      rename_i hu
      exfalso
      cases hop:s.o.op<;>rw [hop] at hs0 hu<;>first | (simp [AOp.calm] at hs0;done) | skip
      case defer y ys=>simp only [opA] at hu;split at hu<;>simp at hu
      all_goals (obtain ⟨_,_,e⟩:=opA_val (by intro y ys;simp) (by intro y;simp) (by intro y ys;simp) _ hu;cases e)
   subst hq
   simp only [hd] at h
   split at h
   ·exact plan_noPan g all ss qf qs r (fun s hs'=>hs s (List.mem_cons_of_mem _ hs')) h v hv
   ·cases h
theorem Post.same {K:Sites} {base:Bs} {J:Inj} {np:Bool} {r r':Res} {e:Exit} {a:Act} {w:World} (hnp:np=false∨∀v,r.x≠.pan v) (hx:r'.x=r.x) (hs:r'.st=r.st) (hd:r'.fr.defs=r.fr.defs) (hn:(∃v,r.x=.pan v)∨r'.fr=r.fr) (h:Post K base J np r' e a w):Post K base J np r e a w:=by
 obtain ⟨J',h1,h2,h3,h4⟩:=h
 refine ⟨J',h1,hs▸h2,hd▸h3,?_⟩
 rw [hx] at h4
 rcases hn with ⟨v,hv⟩ | hf
 ·rcases hnp with rfl | hnp
  ·rw [hv] at h4 ⊢;exact ⟨h4.1,fun e=>by cases e⟩
  ·exact absurd hv (hnp v)
 ·rw [hf] at h4;exact h4
theorem wpOps_mono {F:Fence} {ops:Array Oper} {Q Q':Exit→Act→World→Prop} (hq:∀e a w,Q e a w→Q' e a w):∀(l:List Nat) (a:Act) (w:World),wpOpsIn F 0 P ops Q l a w→wpOpsIn F 0 P ops Q' l a w
 | [],a,w,h=>hq _ _ _ h
 | i::is,a,w,h=>by
  simp only [wpOpsIn] at h ⊢
  split at h
  ·exact wpOps_mono hq is a w h
  ·rename_i o ho
   split at h
   ·rename_i hw
    rw [if_pos hw]
    refine ⟨h.1,?_⟩
    have h2:=h.2
    unfold Oper.uponIn at h2 ⊢
    split at h2
    ·exact wpOps_mono hq is _ _ h2
    ·exact wpOps_mono hq is _ _ h2
    ·exact wpOps_mono hq is _ _ h2
    ·refine ⟨h2.1,h2.2.mono fun e w' p=>?_⟩
     cases e with
     | returned v=>exact wpOps_mono hq is _ _ p
     | panicked ch=>exact hq _ _ _ p
     | outgrown=>obtain ⟨a0,w0,p⟩:=p;exact ⟨a0,w0,hq _ _ _ p⟩
    ·exact ⟨h2.1,h2.2.mono fun v w' p=>wpOps_mono hq is _ _ p⟩
    ·refine ⟨h2.1,h2.2.mono fun e w' p=>?_⟩
     cases e with
     | returned v=>exact wpOps_mono hq is _ _ p
     | panicked ch=>exact hq _ _ _ p
     | outgrown=>obtain ⟨a0,w0,p⟩:=p;exact ⟨a0,w0,hq _ _ _ p⟩
    ·exact hq _ _ _ h2
    ·exact h2.elim
   ·rename_i hw
    rw [if_neg hw]
    exact ⟨h.1,wpOps_mono hq is _ _ h.2⟩
theorem pend_code {np:Bool} {J:Inj} {K:Sites} {base:Bs} {F:Fence} {p:Option APend} {fr:Fr} {st:St} {a:Act} {w:World} (hS:Sim K base J st w) (hR:FrRep J fr a) :
  (match pendCode p with
   | none=>Post K base J np ⟨pendEx p,fr,st⟩ .normal a w
   | some c=>c.wpIn F 0 P (Post K base J np ⟨pendEx p,fr,st⟩) a w):=by
 cases p with
 | none=>exact ⟨J,Inj.le.refl J,hS,hR.defs,rfl,hR.env⟩
 | some p =>
  cases p with
  | ret=>exact wpIn_ret ⟨J,Inj.le.refl J,hS,hR.defs,rfl,hR.env⟩
  | exit id=>exact wpIn_exit ⟨J,Inj.le.refl J,hS,hR.defs,rfl,hR.env⟩
theorem DefReps.append {J:Inj}:∀{ms ds:List ADef} {xs ys:List Deferred},DefReps J ms xs→DefReps J ds ys→DefReps J (ms++ds) (xs++ys)
 | [],_,_,_,h,h'=>by simp only [DefReps] at h;subst h;exact h'
 | _::_,_,_,_,⟨y,ys,e,h1,h2⟩,h'=>by subst e;exact ⟨y,_,rfl,h1,DefReps.append h2 h'⟩
theorem range_ok (G:∀t st r,g t st=some r→TaskOk P gl A B t st r) {fn:FuncId} {AF:AFunc} (hfn:A.fn fn=some AF) {rnd:Option Nat} {base:Bs} {site:Nat} {asgA bodyA:ACode} {asg body:Code}
  (hst:AF.sites[site]?=some (asgA,bodyA)) (hs1:codeFits P gl AF.sites asg asgA=true) (hs2:codeFits P gl AF.sites body bodyA=true) (hs3:Go.Reach.defers asg=false∧Go.Reach.defers body=false) {F:Fence} {J:Inj} {w:World} {a:Act} {fr:Fr} {st:St} {np:Bool} {r:Res}
  (hF:FenceOk J F rnd) (hS:Sim (SitesOf P gl A) base J st w) (hG:GOk B gl base J) (hR:FrRep J fr a) {f:Operand} {hh:FuncId} {first cap:List AV} {ps:Array Tmp}
  (hfv:∃a' b':Array Value,a.eval f=.func (.func hh) a' b'∧Reps J first a'.toList∧Reps J cap b'.toList) {d:Nat} {mark:List ADef} {st1:St} (hrs:rangeStart rnd st=some (d,mark,st1))
  (h:rangeEnd st1.length fr mark (g (.seqc hh (first++[.func (.yield st1.length) [] []]++cap)) (st1++[.loop .ready none fn site ps.toList fr.env d]))=some r) :
  (Code.rangeFunc f ps asg body).wpIn F 0 P (Post (SitesOf P gl A) base J np r) a w:=by
 obtain ⟨a',b',e1,r1,r2⟩:=hfv
 refine wpIn_rangeFunc fun fn' _=>?_
 let lp (db:Nat):Loop:={ state:=.ready,pending:=none,fn:=fn',tmps:=a.tmps,params:=ps,assign:=asg,body:=body,defers:=db }
 -- what the loop's record hangs on
 obtain ⟨J1,w1,db,cmark,hJ1,hS1,hd,hmk,hent⟩:∃J1 w1 db cmark,J.le J1∧Sim (SitesOf P gl A) base J1 st1 w1∧J1.ρ d=some db∧DefReps J1 mark cmark ∧
   (Instr.enterLoop fn' a.tmps ps asg body F.round).run P w=.ok (w1.heap.size,cmark) { w1 with heap:=w1.heap.push (.loop (lp db)) }:=by
  cases rnd with
  | none =>
   rw [show F=FW from hF]
   simp only [rangeStart,Option.some.injEq,Prod.mk.injEq] at hrs
   obtain ⟨rfl,rfl,rfl⟩:=hrs
   have hadd:=hS.add (n:=0) (.deferred (some [])) (.defr (some [])) rfl (by simp) ⟨w.heap.size,some [],by simp [Inj.bind],by simp,[],rfl,rfl⟩
   refine ⟨_,_,w.heap.size,[{ target:=.collected w.heap.size,args:=#[] }],hS.bind_le _ 0,hadd,by simp [Inj.bind],⟨_,[],rfl,⟨w.heap.size,by simp [Inj.bind],rfl⟩,rfl⟩,?_⟩
   simp [Instr.enterLoop,Fence.wide,lp]
  | some q =>
   obtain ⟨l,hl,rfl⟩:=hF
   simp only [rangeStart] at hrs
   cases hq:st[q]? with
   | none=>simp [hq] at hrs
   | some ob =>
    cases ob<;>simp only [hq] at hrs<;>try (cases hrs;done)
    rename_i s p f2 site2 ps2 env2 d2
    simp only [Option.some.injEq,Prod.mk.injEq] at hrs
    obtain ⟨rfl,rfl,rfl⟩:=hrs
    obtain ⟨b,lo,h1,h2,_,_,_,_,_,h9⟩:=hS.obj q _ hq
    rw [hl] at h1;cases h1
    refine ⟨J,w,lo.defers,[],Inj.le.refl J,hS,h9,rfl,?_⟩
    simp [Instr.enterLoop,Instr.getLoop,getObj,Sem.run,h2,lp]
 have hadd:=hS1.add (n:=0) (.loop (lp db)) (.loop .ready none fn site ps.toList fr.env d) rfl (by simp)
  ⟨w1.heap.size,lp db,by simp [Inj.bind],by simp,rfl,rfl,⟨AF,asgA,bodyA,hfn,hst,hs1,hs2,hs3⟩,rfl,Reps.mono (hJ1.trans (hS1.bind_le _ 0)) _ _ hR.env,(hS1.bind_le _ 0).ρ _ _ hd⟩
 have hle2:=hS1.bind_le w1.heap.size 0
 have hJ2:=hJ1.trans hle2
 have hargs:Reps (J1.bind st1.length w1.heap.size 0) (first++[.func (.yield st1.length) [] []]++cap) ((a'++#[Value.func (.yield w1.heap.size) #[] #[]])++b').toList:=by
  simp only [Array.toList_append]
  refine ((Reps.mono hJ2 _ _ r1).append ?_).append (Reps.mono hJ2 _ _ r2)
  simp [Reps,Rep,Inj.bind]
 cases hg:g (.seqc hh (first++[.func (.yield st1.length) [] []]++cap)) (st1++[.loop .ready none fn site ps.toList fr.env d]) with
 | none=>rw [hg] at h;simp only [rangeEnd] at h;cases h
 | some q =>
  obtain ⟨hen,hcall⟩:=G _ _ _ hg base _ _ _ hadd (hG.mono hJ2) hargs
  let W2:World:={ w1 with heap:=w1.heap.push (.loop (lp db)) }
  refine ⟨w1.heap.size,cmark,W2,{ target:=.fn (.func hh) b',args:=a'++#[Value.func (.yield w1.heap.size) #[] #[]] },W2,hh,(a'++#[Value.func (.yield w1.heap.size) #[] #[]])++b',W2,hent,?_,fun f' _=>hF.fn f',?_,hF.depth,?_⟩
  ·have e2:a.eval (.const (.func (.yield w1.heap.size) #[] #[]))=Value.func (.yield w1.heap.size) #[] #[]:=rfl
   simp [resolve,rangeCall,e1,e2,Deferred.ofValue]
  ·simp only [invoke];exact hen
  ·have hcall':CallsIn F 0 P hh ((a'++#[Value.func (.yield w1.heap.size) #[] #[]])++b') { w1 with heap:=w1.heap.push (.loop (lp db)) } (Ends (SitesOf P gl A) base (J1.bind st1.length w1.heap.size 0) q):=by
    cases rnd with
    | none=>rw [show F=FW from hF];exact hcall
    | some rr=>obtain ⟨l',_,rfl⟩:=hF;exact hcall
   refine CallsIn.mono hcall' ?_
   rintro e w' ⟨J',hle,hS',hx⟩
   have hJJ:=hJ2.trans hle
   have hdefs:DefReps J' (mark++fr.defs) (cmark++a.defers):=by
    exact (hmk.mono (hle2.trans hle)).append (hR.defs.mono hJJ)
   obtain ⟨qx,qf,qs⟩:=q
   cases qx with
   | nrm=>exact hx.elim
   | exit id=>exact hx.elim
   | ret =>
    obtain ⟨v,z,henv,hr,rfl⟩:=hx
    simp only [hg,rangeEnd] at h
    cases hq:qs[st1.length]? with
    | none=>simp [hq] at h
    | some ob =>
     cases ob<;>simp only [hq] at h<;>try (cases h;done)
     rename_i s pend f2 site2 ps2 env2 d2
     split at h
     ·cases h
     ·rename_i hbusy
      simp only [Option.some.injEq] at h;subst h
      obtain ⟨b,lo,h1,h2,h3,h4,h6,h7,h8,h9⟩:=hS'.obj _ _ hq
      have hb:b=w1.heap.size:=by
       have:=hle.ρ st1.length w1.heap.size (by simp [Inj.bind])
       rw [h1] at this;exact Option.some.inj this
      subst hb
      have hbl:=heap_lt h2
      have hupd:=hS'.upd hq h1 rfl (by simp) (w':={ w' with heap:=w'.heap.setIfInBounds w1.heap.size (.loop { lo with state:=.exhausted }) }) (a:=.loop .exhausted pend f2 site2 ps2 env2 d2) rfl (by simp) rfl rfl (by simp)
       (fun b' hne=>by simp [Array.getElem?_setIfInBounds,Ne.symm hne])
       ⟨w1.heap.size,{ lo with state:=.exhausted },h1,by simp [hbl],rfl,h4,h6,h7,h8,h9⟩
      refine ⟨pendCode pend,{ w' with heap:=w'.heap.setIfInBounds w1.heap.size (.loop { lo with state:=.exhausted }) },?_,?_⟩
      ·have hne:¬lo.state=LoopState.busy:=by rw [h3];exact hbusy
       simp [Instr.endLoop,Instr.getLoop,getObj,setObj,Sem.run,h2,hne,h4]
      ·have:=pend_code (P:=P) (F:=F) (np:=np) (p:=pend) (fr:=⟨fr.env,mark++fr.defs⟩) (a:={ a with defers:=cmark++a.defers }) hupd ⟨Reps.mono hJJ _ _ hR.env,hdefs⟩
       cases hp:pendCode pend with
       | none=>rw [hp] at this;exact this.le hJJ
       | some c=>rw [hp] at this;exact wpIn_mono this (fun e a w p=>p.le hJJ)
   | pan v =>
    obtain ⟨z,hr,rfl⟩:=hx
    simp only [hg,rangeEnd,Option.some.injEq] at h;subst h
    exact ⟨J',hJJ,hS',hdefs,⟨z,hr,rfl⟩,fun _=>Reps.mono hJJ _ _ hR.env⟩
variable (hmix:P.follows .mixedOrders=true)
include hmix in
theorem exec_ok (hplan:∀ops ss,planFits P gl ops ss=true→PlanOk P gl ops ss) (G:∀t st r,g t st=some r→TaskOk P gl A B t st r) {fn:FuncId} {AF:AFunc} (hfn:A.fn fn=some AF) {rnd:Option Nat} {base:Bs} :
  ∀(c:Code) (ac:ACode) (F:Fence) (J:Inj) (w:World) (a:Act) (fr:Fr) (st:St) (r:Res),codeFits P gl AF.sites c ac=true→(rnd=none∨Go.Reach.defers c=false)→∀np,(np=true→ac.noPlan=true)→FenceOk J F rnd→Sim (SitesOf P gl A) base J st w→GOk B gl base J→FrRep J fr a →
   exec g fn rnd ac fr st=some r→c.wpIn F 0 P (Post (SitesOf P gl A) base J np r) a w:=by
 intro c
 induction c with
 | skip =>
  intro ac F J w a fr st r hc hN np hnp hF hS hG hR h
  cases ac<;>simp [codeFits] at hc
  simp [exec] at h;subst h
  exact wpIn_skip ⟨J,Inj.le.refl J,hS,hR.defs,rfl,hR.env⟩
 | label l =>
  intro ac F J w a fr st r hc hN np hnp hF hS hG hR h
  cases ac<;>simp [codeFits] at hc
  simp [exec] at h;subst h
  exact wpIn_label ⟨J,Inj.le.refl J,hS,hR.defs,rfl,hR.env⟩
 | region id ops draw =>
  intro ac F J w a fr st r hc hN np hnp hF hS hG hR h
  cases draw with
  | false =>
   cases ac<;>simp [codeFits] at hc
   rename_i as
   simp only [exec] at h
   refine wpIn_region ?_
   have hi:=regFits_idx ops.toList as [] 0 hc (fun i o e=>by simpa using e)
   simp only [Nat.zero_add,List.map_id',Array.length_toList] at hi
   exact doOps_ok G _ as [] base J w a fr st hi (Inj.le.refl J) hF (hN.imp_right no_defs) (PdOk.nil ..) hS hG hR h
  | true =>
   cases ac<;>simp [codeFits] at hc
   rename_i ss
   simp only [exec] at h
   refine wpIn_region_draw fun t=>?_
   rw [hmix]
   obtain ⟨as,r',hi,hd,hx,hs,hdf,hnf⟩:=hplan ops ss hc g fr st r t h
   have:=doOps_ok (np:=np) G _ as [] base J { w with drawn:=w.drawn+1 } a fr st hi (Inj.le.refl J) hF (hN.imp_right no_defs) (PdOk.nil ..) (hS.same rfl rfl rfl) hG hR hd
   exact wpOps_mono (fun e a w p=>p.same (by
    cases np with
    | false=>exact .inl rfl
    | true=>exact .inr (fun v hv=>plan_noPan g ss ss fr st r (by simpa [ACode.noPlan] using hnp rfl) h v hv)) hx hs hdf hnf) _ _ _ this
 | seq x y ihx ihy =>
  intro ac F J w a fr st r hc hN np hnp hF hS hG hR h
  cases ac<;>simp [codeFits] at hc
  rename_i ax ay
  simp only [exec] at h
  refine wpIn_seq ?_
  cases hx:exec g fn rnd ax fr st with
  | none=>simp [hx] at h
  | some q =>
   refine wpIn_mono (ihx ax F J w a fr st q hc.1 (hN.imp_right fun h=>by simp [Go.Reach.defers] at h;exact h.1) np (fun e=>by have:=hnp e;simp [ACode.noPlan] at this;exact this.1) hF hS hG hR hx) ?_
   rintro e a' w' ⟨J',hle,hS',hdf,hex⟩
   obtain ⟨qx,qf,qs⟩:=q
   cases qx with
   | nrm =>
    simp only [hx] at h
    obtain ⟨rfl,henv⟩:=hex
    exact wpIn_mono (ihy ay F J' w' a' qf qs r hc.2 (hN.imp_right fun h=>by simp [Go.Reach.defers] at h;exact h.2) np (fun e=>by have:=hnp e;simp [ACode.noPlan] at this;exact this.2) (hF.mono hle) hS' (hG.mono hle) ⟨henv,hdf⟩ h) (fun e a w p=>p.le hle)
   | exit id=>simp [hx] at h;subst h;obtain ⟨rfl,henv⟩:=hex;exact ⟨J',hle,hS',hdf,rfl,henv⟩
   | ret=>simp [hx] at h;subst h;obtain ⟨rfl,henv⟩:=hex;exact ⟨J',hle,hS',hdf,rfl,henv⟩
   | pan v=>simp [hx] at h;subst h;obtain ⟨⟨z,hr,rfl⟩,hre⟩:=hex;exact ⟨J',hle,hS',hdf,⟨z,hr,rfl⟩,hre⟩
 | cond c x y ihx ihy =>
  intro ac F J w a fr st r hc hN np hnp hF hS hG hR h
  cases ac<;>simp [codeFits] at hc
  rename_i ac ax ay
  simp only [exec] at h
  have hcr:=xFits_rep hR.env hG.1 hc.1.1
  cases hce:ac.ev fr.env<;>simp only [hce] at h<;>try (cases h;done)
  rename_i b
  rw [hce] at hcr
  simp only [Rep] at hcr
  refine wpIn_cond hcr ?_
  cases b with
  | true=>exact ihx ax F J w a fr st r hc.1.2 (hN.imp_right fun h=>by simp [Go.Reach.defers] at h;exact h.1) np (fun e=>by have:=hnp e;simp [ACode.noPlan] at this;exact this.1) hF hS hG hR (by simpa using h)
  | false=>exact ihy ay F J w a fr st r hc.2 (hN.imp_right fun h=>by simp [Go.Reach.defers] at h;exact h.2) np (fun e=>by have:=hnp e;simp [ACode.noPlan] at this;exact this.2) hF hS hG hR (by simpa using h)
 | block id x ih =>
  intro ac F J w a fr st r hc hN np hnp hF hS hG hR h
  cases ac<;>simp [codeFits] at hc
  rename_i id' ax
  obtain ⟨rfl,hc⟩:=hc
  simp only [exec] at h
  refine wpIn_block ?_
  cases hx:exec g fn rnd ax fr st with
  | none=>simp [hx] at h
  | some q =>
   refine wpIn_mono (ih ax F J w a fr st q hc (hN.imp_right fun h=>by simpa [Go.Reach.defers] using h) np hnp hF hS hG hR hx) ?_
   rintro e a' w' ⟨J',hle,hS',hdf,hex⟩
   obtain ⟨qx,qf,qs⟩:=q
   cases qx with
   | nrm=>simp [hx] at h;subst h;obtain ⟨rfl,henv⟩:=hex;exact ⟨J',hle,hS',hdf,rfl,henv⟩
   | exit id' =>
    simp [hx] at h;subst h;obtain ⟨rfl,henv⟩:=hex
    by_cases hid:id'=id
    ·simp only [Exit.inBlock,hid,if_true];exact ⟨J',hle,hS',hdf,rfl,henv⟩
    ·simp only [Exit.inBlock,hid,if_false];exact ⟨J',hle,hS',hdf,rfl,henv⟩
   | ret=>simp [hx] at h;subst h;obtain ⟨rfl,henv⟩:=hex;exact ⟨J',hle,hS',hdf,rfl,henv⟩
   | pan v=>simp [hx] at h;subst h;obtain ⟨⟨z,hr,rfl⟩,hre⟩:=hex;exact ⟨J',hle,hS',hdf,⟨z,hr,rfl⟩,hre⟩
 | loop x ih =>
  intro ac F J w a fr st r hc hN np hnp hF hS hG hR h
  cases ac<;>simp [codeFits] at hc
  rename_i ax
  simp only [exec] at h
  exact wpIn_loopHead (G _ _ _ h AF x hfn hc (hN.imp_right fun h=>by simpa [Go.Reach.defers] using h) np hnp base J w a F hF hS hG hR)
 | exit id =>
  intro ac F J w a fr st r hc hN np hnp hF hS hG hR h
  cases ac<;>simp [codeFits] at hc
  subst hc
  simp [exec] at h;subst h
  exact wpIn_exit ⟨J,Inj.le.refl J,hS,hR.defs,rfl,hR.env⟩
 | ret =>
  intro ac F J w a fr st r hc hN np hnp hF hS hG hR h
  cases ac<;>simp [codeFits] at hc
  simp [exec] at h;subst h
  exact wpIn_ret ⟨J,Inj.le.refl J,hS,hR.defs,rfl,hR.env⟩
 | rangeFunc f ps asg body ih1 ih2 =>
  intro ac F J w a fr st r hc hN np hnp hF hS hG hR h
  cases ac<;>simp [codeFits] at hc
  rename_i y ps' site
  obtain ⟨⟨hy,rfl⟩,hsite⟩:=hc
  split at hsite
  ·rename_i asgA bodyA hst
   simp only [Bool.and_eq_true,Bool.not_eq_true'] at hsite
   obtain ⟨⟨hsite,hsd1⟩,hsd2⟩:=hsite
   have hyr:=xFits_rep hR.env hG.1 hy
   simp only [exec] at h
   split at h
   ·rename_i hh first cap hyv
    rw [hyv] at hyr
    simp only [Rep] at hyr
    obtain ⟨a',b',e1,r1,r2⟩:=hyr
    cases hrs:rangeStart rnd st with
    | none=>simp [hrs] at h
    | some q =>
     obtain ⟨d,mark,st1⟩:=q
     simp only [hrs] at h
     exact range_ok G hfn hst hsite.1 hsite.2 ⟨hsd1,hsd2⟩ hF hS hG hR (hh:=hh) (first:=first) (cap:=cap) ⟨a',b',e1,r1,r2⟩ hrs h
   ·cases h
  ·cases hsite
 | goto l =>
  intro ac F J w a fr st r hc hN np hnp hF hS hG hR h
  cases ac<;>simp [codeFits] at hc
 | scope x ih =>
  intro ac F J w a fr st r hc hN np hnp hF hS hG hR h
  cases ac<;>simp [codeFits] at hc
 | refuse s =>
  intro ac F J w a fr st r hc hN np hnp hF hS hG hR h
  cases ac<;>simp [codeFits] at hc
end
end Go.Proofs.YtgkhmmlemgikjaaGreatDoor.Ai
namespace Go.Proofs.YtgkhmmlemgikjaaGreatDoor.Ai
open Go
section
variable {P:Program} {gl:List (Nat×AV)} {A:AProg} {B:World→Prop} {g:Task→St→Option Res} {K:Sites} {base:Bs} {J:Inj} {st:St} {w:World}
theorem runDefs_ok {fn:Func} {tmps:Array Value} {R:Ending→World→Prop} {u:FrameMode} (hu:u≠.run):∀(ds:List ADef) (cds:List Deferred) (st st':St) (w:World),runDefs ds st=some st'→Sim K base J st w→DefReps J ds cds →
  (∀w',Sim K base J st' w'→LeavesIn FW 0 P fn tmps R [] u w')→LeavesInM FW 0 P fn tmps R cds u w
 | [],cds,st,st',w,h,hS,hd,hk=>by
  simp only [runDefs,Option.some.injEq] at h;subst h
  simp only [DefReps] at hd;subst hd
  simp only [LeavesInM];exact hk w hS
 | .call f args::ds,cds,st,st',w,h,hS,hd,hk=>by simp [runDefs] at h
 | .collected r::ds,cds,st,st',w,h,hS,hd,hk=>by
  obtain ⟨y,ys,rfl,⟨b,hb,rfl⟩,hd2⟩:=hd
  simp only [runDefs] at h
  cases hst:st[r]? with
  | none=>simp [hst] at h
  | some ob =>
   rw [hst] at h
   split at h
   ·rename_i heq
    cases heq
    obtain ⟨b',ds',h1,h2,l',rfl,h3⟩:=hS.obj r _ hst
    rw [hb] at h1;cases h1
    simp only [DefReps] at h3;subst h3
    have hbl:=heap_lt h2
    have hupd:=hS.upd hst hb rfl (by simp) (w':={ w with heap:=w.heap.setIfInBounds b (.deferred none) }) (a:=.defr none) rfl (by simp) rfl rfl (by simp)
     (fun b' hne=>by simp [Array.getElem?_setIfInBounds,Ne.symm hne]) ⟨b,none,hb,by simp [hbl],rfl⟩
    refine ⟨hu,.inl ⟨b,_,rfl,?_,runDefs_ok hu ds ys _ st' _ h hupd hd2 hk⟩⟩
    simp [Instr.takeDeferred,getObj,setObj,Sem.run,h2]
   ·cases h
theorem loadStill {u v:AV} {x:Value} {t:TypeId} {m:Nat} {agg:Bool} (hS:Sim K base J st w) (hvf:varFits P t m agg=true) (hr:Rep J (.iptr u) x)
  (h:readStill m agg u=some v) :
  ∃ad y,x=.pointer (some ad)∧(loadVar t ad).run P w=.ok y w∧Rep J v y:=by
 simp only [readStill] at h
 simp only [Rep] at hr
 obtain ⟨ad,y',hx',hsp,hry,hvar,hrow⟩:=hr
 obtain ⟨_,_,hm⟩:=varFits_iff hvf
 have hcell:∀(j:Nat) x,y'.cells.toList[j]?=some x→w.cell? ⟨ad.block,ad.off+j,none⟩=some x:=fun j x hj=>hS.imOk _ _ _ (hrow j x hj)
 refine ⟨ad,y',hx',?_,?_⟩
 ·cases agg with
  | true =>
   simp only [if_true] at h
   split at h
   ·rename_i cs
    split at h
    ·rename_i hl
     simp only [Rep] at hry
     obtain ⟨arr,rfl,hr1,_⟩:=hry
     rw [r_loadVar hvf hsp arr.toList (by rw [←hr1.length];exact hl) hcell]
     simp
    ·cases h
   ·cases h
  | false =>
   simp only [Bool.false_eq_true,if_false] at h
   split at h
   ·rename_i hc
    have hm1:=hm rfl
    subst hm1
    obtain ⟨_,hcs⟩:=hry.oneCell hc
    rw [hcs] at hcell
    rw [r_loadVar hvf hsp [y'] rfl hcell]
    simp
   ·cases h
 ·cases agg with
  | true =>
   simp only [if_true] at h
   split at h
   ·split at h
    ·cases h;exact hry
    ·cases h
   ·cases h
  | false =>
   simp only [Bool.false_eq_true,if_false] at h
   split at h
   ·cases h;exact hry
   ·cases h
theorem results_ok {e:Env} {tmps:Array Value} (hS:Sim K base J st w) (hE:Reps J e tmps.toList):∀(rs:List ResultVar) (as:List ARes) (vs:List AV),ressFit P rs as=true→resultsA st e as=some vs →
  ∃xs:List Value,(rs.mapM fun
   | .tmp t=>pure (tmps.getD t Go.undef)
   | .cell a t=>do loadVar t (←asAddr (tmps.getD a Go.undef)):Sem (List Value)).run P w=.ok xs w∧Reps J vs xs
 | [],[],vs,_,h=>by simp [resultsA] at h;subst h;exact ⟨[],by simp,by simp [Reps]⟩
 | [],_::_,_,h,_=>by simp [ressFit] at h
 | _::_,[],_,h,_=>by simp [ressFit] at h
 | r::rs,ar::as,vs,hf,h=>by
  simp only [ressFit,Bool.and_eq_true] at hf
  simp only [resultsA] at h
  split at h
  ·rename_i v us hv hus
   simp only [Option.some.injEq] at h;subst h
   obtain ⟨xs,hx,hr⟩:=results_ok hS hE rs as us hf.2 hus
   obtain ⟨x,hx1,hr1⟩:∃x,((match r with
     | .tmp t=>pure (tmps.getD t Go.undef)
     | .cell a t=>do loadVar t (←asAddr (tmps.getD a Go.undef)):Sem Value)).run P w=.ok x w∧Rep J v x:=by
    cases r with
    | tmp t =>
     cases ar with
     | tmp t'=>simp [resFits] at hf;rw [←hf.1] at hv;simp [resA] at hv;subst hv;exact ⟨_,rfl,hE.getD t⟩
     | cell _ _ _=>simp [resFits] at hf
    | cell ad t =>
     cases ar with
     | tmp _=>simp [resFits] at hf
     | cell i m agg =>
      simp only [resFits,Bool.and_eq_true,beq_iff_eq] at hf
      obtain ⟨⟨rfl,hvf⟩,_⟩:=hf
      have hr0:=hE.getD ad
      simp only [resA] at hv
      cases hev:e.getD ad .undef<;>simp only [hev] at hv<;>try (cases hv;done)
      ·rename_i q off
       rw [hev] at hr0;simp only [Rep] at hr0
       obtain ⟨b,hb,e1⟩:=hr0
       cases hst:st[q]? with
       | none=>simp [hst] at hv
       | some ob =>
        cases ob<;>simp only [hst] at hv<;>try (cases hv;done)
        rename_i cs
        obtain ⟨b',c,tt,h1,⟨fr,h2,_⟩,h3,h4,h5,_⟩:=hS.obj q _ hst
        rw [hb] at h1;cases h1
        obtain ⟨_,_,hm⟩:=varFits_iff hvf
        have hcell:∀(j:Nat) x,(c.toList.drop off)[j]?=some x→w.cell? ⟨b,off+j,none⟩=some x:=by
         intro j x hj
         rw [cell_of_heap h2];rw [List.getElem?_drop] at hj;simpa using hj
        unfold takeVar at hv
        cases agg with
        | true =>
         simp only [if_true] at hv
         split at hv
         ·rename_i hle
          cases hv
          have hrr:Reps J ((cs.drop off).take m) ((c.toList.drop off).take m):=by
           have:=(h4.drop off).take m
           rw [List.drop_take,List.take_take] at this
           rwa [Nat.min_eq_left (by omega)] at this
          refine ⟨.agg ((c.toList.drop off).take m).toArray,?_,?_⟩
          ·simp only [e1,asAddr,Sem.run_bind,Sem.run_pure,Result.andThen_ok]
           rw [r_loadVar hvf rfl ((c.toList.drop off).take m) (by simp;omega) (fun j x hj=>hcell j x (by rw [List.getElem?_take] at hj;split at hj;exact hj;cases hj))]
           simp
          ·simp only [Rep]
           refine ⟨_,rfl,by simpa using hrr,?_⟩
           rw [List.all_eq_true] at h5 ⊢
           intro z hz;exact h5 z (List.mem_of_mem_drop (List.mem_of_mem_take hz))
         ·cases hv
        | false =>
         simp only [Bool.false_eq_true,if_false] at hv
         have hm1:=hm rfl
         subst hm1
         obtain ⟨x,hx1,hx2⟩:=h4.get off v hv
         have hx3:c.toList[off]?=some x:=by rw [List.getElem?_take] at hx1;split at hx1;exact hx1;cases hx1
         refine ⟨x,?_,hx2⟩
         simp only [e1,asAddr,Sem.run_bind,Sem.run_pure,Result.andThen_ok]
         rw [r_loadVar hvf rfl [x] rfl (fun j y hj=>by
          cases j with
          | zero=>simp at hj;subst hj;exact hcell 0 x (by rw [List.getElem?_drop];exact hx3)
          | succ j=>simp at hj)]
         simp
      ·rw [hev] at hr0
       obtain ⟨add,y,e1,hload,hry⟩:=loadStill hS hvf hr0 hv
       exact ⟨y,by simp only [e1,asAddr,Sem.run_bind,Sem.run_pure,Result.andThen_ok];exact hload,hry⟩
   refine ⟨x::xs,?_,by simp only [Reps];exact ⟨x,xs,rfl,hr1,hr⟩⟩
   rw [List.mapM_cons,Sem.run_bind,hx1]
   simp only [Result.andThen_ok,Sem.run_bind,hx,Sem.run_pure]
  ·cases h
theorem results_run {fn:Func} {e:Env} {tmps:Array Value} {as:List ARes} {vs:List AV} (hS:Sim K base J st w) (hE:Reps J e tmps.toList) (hf:ressFit P fn.results.toList as=true) (h:resultsA st e as=some vs) :
  ∃x,(results fn tmps).run P w=.ok x w∧Rep J (oneOf vs) x:=by
 obtain ⟨xs,hx,hr⟩:=results_ok hS hE _ _ _ hf h
 have hrun:(fn.results.mapM fun
   | .tmp t=>pure (tmps.getD t Go.undef)
   | .cell a t=>do loadVar t (←asAddr (tmps.getD a Go.undef)):Sem (Array Value)).run P w=.ok xs.toArray w:=by
  rw [Array.mapM_eq_mapM_toList,Sem.run_map]
  have:=hx
  rw [this];rfl
 unfold results
 rw [Sem.run_bind]
 refine ⟨_,congrArg (fun q:Result (Array Value)=>q.andThen fun vs w'=>Sem.run P (pure (if h:vs.size=1 then vs[0] else .tuple vs)) w') hrun,?_⟩
 have hl:=hr.length
 match vs,xs,hr,hl with
 | [v],[x],hr,_ =>
  simp only [Reps] at hr
  obtain ⟨y,ys,hy,h1,_⟩:=hr
  cases hy
  simpa [oneOf] using h1
 | [],[],hr,_=>simp [oneOf,Rep,Reps]
 | v::v'::vs,x::x'::xs,hr,_ =>
  simp only [oneOf,Rep]
  exact ⟨(x::x'::xs).toArray,by simp,by simpa using hr⟩
def ModeRep (J:Inj) (u:Option AV) (m:FrameMode):Prop :=
 match u with
 | none=>m=.returning
 | some v=>∃z,Rep J v z∧m=.panicking [{ v:=z,recovered:=false }]
theorem ModeRep.mono {J J':Inj} (h:J.le J') {u:Option AV} {m:FrameMode} (r:ModeRep J u m):ModeRep J' u m:=by
 cases u with
 | none=>exact r
 | some v=>obtain ⟨z,hr,e⟩:=r;exact ⟨z,Rep.mono h _ _ hr,e⟩
theorem ModeRep.run {J:Inj} {u:Option AV} {m:FrameMode} (r:ModeRep J u m):m≠.run:=by
 cases u with
 | none=>rw [show m=.returning from r];simp
 | some v=>obtain ⟨z,_,e⟩:=r;rw [e];simp
def DefEnds (K:Sites) (base:Bs) (J:Inj) (u:Option AV) (st:St) (e:Ending) (m:FrameMode) (w:World):Prop :=
 ∃v J',e=.returned v∧J.le J'∧Sim K base J' st w∧ModeRep J' u (Go.settle m)
theorem fr0 {fn:Func} {n:Nat} (hn:fn.ntmps=n) {args:List AV} {cargs:Array Value} (hR:Reps J args cargs.toList):FrRep J ⟨env0 args n,[]⟩ { tmps:=cargs++Array.replicate (fn.ntmps-cargs.size) Go.undef,defers:=[] }:=by
 have hl:=hR.length
 refine ⟨?_,rfl⟩
 simp only [env0,Array.toList_append,Array.toList_replicate]
 refine hR.append ?_
 rw [hn,show cargs.size=args.length by simp at hl;omega]
 have:∀n,Reps J (List.replicate n AV.undef) (List.replicate n Go.undef):=by
  intro n;induction n with
  | zero=>simp [Reps]
  | succ n ih=>simp only [List.replicate_succ,Reps];exact ⟨_,_,rfl,Rep.undef,ih⟩
 exact this _
theorem def_end {F:AFunc} {fn:Func} {J1:Inj} {w1:World} {x:AEx} {e:Env} {st':St} {u':Option AV} {q:Option AV×St} {c₀:Frame} {cs:List Frame} {a':Act} {ex:Exit} {m:FrameMode}
  (hS0:Sim K base J st w) (hle:J.le J1) (hS1:Sim K base J1 st' w1) (hd:DefReps J1 [] a'.defers) {np:Bool} (hx:exitIs J1 np x e ex a') (hres:ressFit P fn.results.toList F.results=true) (hm:ModeRep J1 u' (Go.settle m))
  (h:defOut F st.length u' x e st'=some q) :
  bodyPostS P fn c₀ cs (DefEnds K base J q.1 q.2) ex a' ({ c₀ with mode:=m }::cs) w1:=by
 have key:∀(hE:Reps J1 e a'.tmps.toList) (h:defOut F st.length u' .nrm e st'=some q),a'.defers=[]∧∃u'',({ c₀ with mode:=m }::cs:List Frame)={ c₀ with mode:=u'' }::cs∧∃v,(results fn a'.tmps).run P w1=.ok v w1∧DefEnds K base J q.1 q.2 (.returned v) u'' w1:=by
  intro hE h
  refine ⟨by simpa [DefReps] using hd,m,rfl,?_⟩
  simp only [defOut] at h
  cases hrs:resultsA st' e F.results with
  | none=>simp [hrs] at h
  | some vs =>
   simp only [hrs] at h
   obtain ⟨x',hx',hrx⟩:=results_run hS1 hE hres hrs
   refine ⟨x',hx',?_⟩
   split at h
   ·simp only [Option.some.injEq] at h;subst h
    exact ⟨x',J1,rfl,hle,hS1,hm⟩
   ·split at h
    ·rename_i v st3 hset
     simp only [Option.some.injEq] at h;subst h
     cases u' with
     | none =>
      obtain ⟨J3,hle3,hS3,_⟩:=settle_sim hS0 hle hS1 hset (x:=.nilIface) (by simp [Rep])
      exact ⟨x',J3,rfl,hle3,hS3,hm⟩
     | some pv =>
      obtain ⟨z,hz,em⟩:=hm
      obtain ⟨J3,hle3,hS3,hr3⟩:=settle_sim hS0 hle hS1 hset hz
      exact ⟨x',J3,rfl,hle3,hS3,z,hr3,em⟩
    ·cases h
 cases x with
 | nrm=>obtain ⟨rfl,hE⟩:=hx;exact key hE h
 | ret=>obtain ⟨rfl,hE⟩:=hx;exact key hE h
 | exit id=>simp [defOut] at h
 | pan v=>simp [defOut] at h
variable (hmix:P.follows .mixedOrders=true) (hplan:∀ops ss,planFits P gl ops ss=true→PlanOk P gl ops ss) (hA:∀f F,A.fn f=some F→funcFits P gl f F=true)
include hmix hplan hA
theorem callDef_ok (G:∀t st r,g t st=some r→TaskOk P gl A B t st r) {f:FuncId} {args:List AV} {u:Option AV} {q:Option AV×St} (h:callDef A g f args u st=some q) {cargs:Array Value} {m:FrameMode}
  (hS:Sim (SitesOf P gl A) base J st w) (hG:GOk B gl base J) (hR:Reps J args cargs.toList) (hm:ModeRep J u m) :
  (callFunc f cargs).run P w=.ok (.enter f cargs) w∧CallsDIn FW 0 P f cargs m w (DefEnds (SitesOf P gl A) base J q.1 q.2):=by
 unfold callDef at h
 cases hF:A.fn f with
 | none=>simp [hF] at h
 | some F =>
  simp only [hF] at h
  have hff:=hA f F hF
  unfold funcFits at hff
  split at hff
  ·rename_i fn hfn
   split at hff
   ·rename_i c hc
    simp only [Bool.and_eq_true,bne_iff_ne,beq_iff_eq] at hff
    obtain ⟨⟨⟨hname,hnt⟩,hres⟩,hcode⟩:=hff
    refine ⟨?_,?_⟩
    ·have hn : (fn.name == "runtime.NumGoroutine") = false := by simpa using hname
     simp [callFunc,hfn,hname,hc]
    ·have hR0:=fr0 (J:=J) hnt hR
     refine callsDIn_of_wpSIn hfn hc trivial fun c₀ cs hc0=>?_
     split at h
     ·rename_i x e st' u' heq
      unfold defBody at heq
      split at heq
      ·rename_i d d1 d2 ca hbody
       split at heq
       case isFalse=>simp at heq
       rename_i hdd
       obtain ⟨rfl,hdlt⟩:=hdd
       simp only [Prod.mk.injEq] at heq
       obtain ⟨hex,rfl⟩:=heq
       rw [hbody] at hcode
       cases c<;>simp [codeFits] at hcode
       rename_i c1 c2
       obtain ⟨hc1,hc2⟩:=hcode
       refine wpSIn_seq ?_
       cases c1<;>(try (simp [codeFits] at hc1;done))
       rename_i id ops draw
       cases draw
       ·obtain ⟨o,o2,rfl,hof,hof2⟩:∃o o2,ops=#[o,o2]∧operFits P gl ops o ⟨some d2,.recover,none⟩=true∧operFits P gl ops o2 ⟨some d1,.mov (.t d2),none⟩=true:=by
         simp only [codeFits] at hc1
         match hl:ops.toList with
         | []=>rw [hl] at hc1;simp [regFits] at hc1
         | [o]=>rw [hl] at hc1;simp [regFits,vsFits] at hc1
         | [o,o2] =>
          rw [hl] at hc1
          simp [regFits,vsFits,isV] at hc1
          exact ⟨o,o2,by rw [←Array.toList_inj];exact hl,hc1.1,hc1.2⟩
         | _::_::_::_=>rw [hl] at hc1;simp [regFits,vsFits] at hc1
        simp only [operFits,Bool.and_eq_true,beq_iff_eq] at hof hof2
        obtain ⟨⟨hdst,hop⟩,hgd⟩:=hof
        obtain ⟨⟨hdst2,hop2⟩,hgd2⟩:=hof2
        have hguard:o.guard=none:=by
         cases hh:o.guard with
         | none=>rfl
         | some gg=>rw [hh] at hgd;simp at hgd
        have hguard2:o2.guard=none:=by
         cases hh:o2.guard with
         | none=>rfl
         | some gg=>rw [hh] at hgd2;simp at hgd2
        have hrun:(execOp ({ tmps:=cargs++Array.replicate (fn.ntmps-cargs.size) Go.undef,defers:=[] }:Act).eval o).run P w=.ok .recover w:=by
         simp only [opFits] at hop
         split at hop
         ·rename_i r1 r2 hb
          unfold asBuiltin at hb
          cases hoo:o.op<;>simp only [hoo] at hb<;>try (cases hb;done)
          rename_i cc
          cases hcal:cc.callee<;>simp only [hcal] at hb<;>try (cases hb;done)
          rename_i b
          simp only [Option.some.injEq,Prod.mk.injEq] at hb
          obtain ⟨rfl,_,_⟩:=hb
          simp [execOp,hoo,resolve,hcal,invoke,builtin]
         ·cases hop
        have hrun2:∀a1:Act,(execOp a1.eval o2).run P w=.ok (.value (a1.eval (.tmp d2))) w:=by
         intro a1
         simp only [opFits] at hop2
         split at hop2
         ·rename_i x' hoo
          cases x'<;>simp [xFits] at hop2
          subst hop2
          simp [execOp,hoo]
         ·rename_i x' hoo
          cases x'<;>simp [xFits] at hop2
          subst hop2
          simp [execOp,hoo]
         ·cases hop2
        refine wpSIn_region ?_
        have hwant:∀y,Region.wanted o y=true:=fun y=>by simp [Region.wanted,hguard]
        have hwant2:∀y,Region.wanted o2 y=true:=fun y=>by simp [Region.wanted,hguard2]
        have hrange:List.range (#[o,o2]:Array Oper).size=[0,1]:=rfl
        have h0:(#[o,o2]:Array Oper)[0]?=some o:=rfl
        have h1:(#[o,o2]:Array Oper)[1]?=some o2:=rfl
        simp only [hrange,wpOpsSIn,h0,h1,hwant,hwant2,if_true,hrun,hrun2]
        refine ⟨fun _ _=>trivial,?_⟩
        have fin:∀(v:AV) (z:Value) (m':FrameMode),Rep J v z→ModeRep J none (Go.settle m')→exec g f none ca ⟨((env0 args F.ntmps).set d2 v).set d1 v,[]⟩ st=some ⟨x,⟨e,[]⟩,st'⟩→∀a1:Act,a1=({ tmps:=cargs++Array.replicate (fn.ntmps-cargs.size) Go.undef,defers:=[] }:Act).put o.dst z →
          (Code.wpSIn FW 0 P c2 (bodyPostS P fn c₀ cs (DefEnds (SitesOf P gl A) base J q.1 q.2)) (a1.put o2.dst (a1.eval (.tmp d2))) ({ c₀ with mode:=m' }::cs) w):=by
         intro v z m' hv hm' hex a1 ha1
         have hR1:FrRep J ⟨(env0 args F.ntmps).set d2 v,[]⟩ a1:=by
          rw [ha1,hdst];exact put_rep (d:=some d2) hR0 hv
         have hv2:Rep J v (a1.eval (.tmp d2)):=by
          have:=hR1.env.getD d2
          rw [List.getD_eq_getElem?_getD,List.getElem?_set_self hdlt] at this
          exact this
         have hR2:FrRep J ⟨((env0 args F.ntmps).set d2 v).set d1 v,[]⟩ (a1.put o2.dst (a1.eval (.tmp d2))):=by
          rw [hdst2];exact put_rep (d:=some d1) hR1 hv2
         refine wpSIn_of_wpIn rfl (wpIn_mono (exec_ok (rnd:=none) hmix hplan G hF c2 ca FW J w _ _ st _ hc2 (.inl rfl) false (fun e=>by cases e) rfl hS hG hR2 hex) ?_)
         rintro ex a' w' ⟨J',hle,hS',hdf,hx⟩
         exact def_end hS hle hS' hdf hx hres (hm'.mono hle) h
        cases u with
        | none =>
         have hmr:m=.returning:=hm
         rw [hmr] at hc0
         simp only [recoverD,hc0]
         refine ⟨fun _ _=>trivial,?_⟩
         have:=fin .nilIface .nilIface c₀.mode (by simp [Rep]) (by rw [hc0];rfl) hex _ rfl
         exact this
        | some v =>
         obtain ⟨z,hz,hmr⟩:=hm
         rw [hmr] at hc0
         simp only [recoverD,hc0]
         refine ⟨fun _ _=>trivial,?_⟩
         exact fin v z _ hz (by simp [Go.settle,ModeRep]) hex _ rfl
       ·simp [codeFits] at hc1
      ·simp only [Prod.mk.injEq] at heq
       obtain ⟨hex,rfl⟩:=heq
       refine wpSIn_of_wpIn rfl (wpIn_mono (exec_ok (rnd:=none) hmix hplan G hF c _ FW J w _ _ st _ hcode (.inl rfl) F.body.noPlan id rfl hS hG hR0 hex) ?_)
       rintro ex a' w' ⟨J',hle,hS',hdf,hx⟩
       have:=def_end (c₀:=c₀) (cs:=cs) (m:=m) hS hle hS' hdf hx hres (u':=u) (by
        cases u with
        | none=>rw [show m=.returning from hm];rfl
        | some v=>obtain ⟨z,hz,e⟩:=hm;exact ⟨z,Rep.mono hle _ _ hz,by rw [e];rfl⟩) h
       have hc1:({ c₀ with mode:=m }:Frame)=c₀:=by rw [←hc0]
       rw [hc1] at this
       exact this
     ·cases h
   ·cases hff
  ·cases hff
theorem runCalls_ok (G:∀t st r,g t st=some r→TaskOk P gl A B t st r) {fn:Func} {tmps:Array Value} {R:Ending→World→Prop}:∀(ds:List ADef) (cds:List Deferred) (u:Option AV) (q:Option AV×St) (st:St) (J:Inj) (w:World) (m:FrameMode),
  runCalls A g ds u st=some q→Sim (SitesOf P gl A) base J st w→GOk B gl base J→DefReps J ds cds→ModeRep J u m →
  (∀J' w' m',J.le J'→Sim (SitesOf P gl A) base J' q.2 w'→ModeRep J' q.1 m'→LeavesIn FW 0 P fn tmps R [] m' w')→LeavesInM FW 0 P fn tmps R cds m w
 | [],cds,u,q,st,J,w,m,h,hS,hG,hd,hm,hk=>by
  simp only [runCalls,Option.some.injEq] at h;subst h
  simp only [DefReps] at hd;subst hd
  simp only [LeavesInM];exact hk J w m (Inj.le.refl J) hS hm
 | .collected r::ds,cds,u,q,st,J,w,m,h,hS,hG,hd,hm,hk=>by simp [runCalls] at h
 | .call f args::ds,cds,u,q,st,J,w,m,h,hS,hG,hd,hm,hk=>by
  obtain ⟨y,ys,rfl,⟨cap,ht,hr⟩,hd2⟩:=hd
  simp only [runCalls] at h
  cases hc:callDef A g f args u st with
  | none=>simp [hc] at h
  | some q1 =>
   simp only [hc] at h
   obtain ⟨h1,h2⟩:=callDef_ok hmix hplan hA G hc hS hG hr hm
   simp only [LeavesInM]
   refine ⟨hm.run,.inr ⟨(fun h=>by cases h),.func f,cap,f,y.args++cap,ht,?_,fun _ _=>trivial,?_⟩⟩
   ·rw [ht];simp only [invoke];exact h1
   ·refine ⟨h2.1,fun c cs hcm hroom=>?_⟩
    obtain ⟨e,u',w',fr,hR,hrest⟩:=h2.2 c cs hcm hroom
    refine ⟨e,u',w',fr,?_,hrest⟩
    obtain ⟨v,J',rfl,hle,hS',hm'⟩:=hR
    exact runCalls_ok G ds ys q1.1 q q1.2 J' w' (Go.settle u') h hS' (hG.mono hle) (hd2.mono hle) hm' (fun J2 w2 m2 hle2 hS2 hm2=>hk J2 w2 m2 (hle.trans hle2) hS2 hm2)
theorem leaveD_ok (G:∀t st r,g t st=some r→TaskOk P gl A B t st r) {f:FuncId} {F:AFunc} (hF:A.fn f=some F) {fn:Func} {c:Code} (hfn:P.funcs[f]?=some fn) (hc:fn.body=some c) (hres:ressFit P fn.results.toList F.results=true)
  {qx:AEx} {qf:Fr} {qs:St} {r:Res} (h:leaveD A g F st.length qx qf qs=some r) {J':Inj} {w':World} {a':Act} {e:Exit} (hS:Sim (SitesOf P gl A) base J st w) (hle:J.le J') (hS':Sim (SitesOf P gl A) base J' qs w')
  (hdf:DefReps J' qf.defs a'.defers) (hG:GOk B gl base J) (hx:exitIs J' F.body.noPlan qx qf.env e a') :
  bodyPostM FW 0 P fn (Ends (SitesOf P gl A) base J r) e a' w':=by
 unfold leaveD at h
 have key:∀(u:Option AV) (m:FrameMode),ModeRep J' u m→(envGone qx F.body=false→Reps J' qf.env a'.tmps.toList)→(match runCalls A g qf.defs u qs with
  | none=>none
  | some q=>lastA F st.length qx qf.env q)=some r→LeavesInM FW 0 P fn a'.tmps (Ends (SitesOf P gl A) base J r) a'.defers m w':=by
  intro u m hm hE h
  cases hrc:runCalls A g qf.defs u qs with
  | none=>simp [hrc] at h
  | some q =>
   simp only [hrc] at h
   refine runCalls_ok hmix hplan hA G _ _ u q qs J' w' m hrc hS' (hG.mono hle) hdf hm fun J2 w2 m2 hle2 hS2 hm2=>?_
   obtain ⟨q1,q2⟩:=q
   cases q1 with
   | some v =>
    simp only [lastA,Option.some.injEq] at h;subst h
    obtain ⟨z,hz,rfl⟩:=hm2
    exact ⟨J2,hle.trans hle2,hS2,z,hz,rfl⟩
   | none =>
    have hmr:m2=.returning:=hm2
    subst hmr
    simp only [lastA] at h
    split at h
    ·cases h
    ·rename_i hgone
     cases hrs:resultsA q2 qf.env F.results with
     | none=>simp [hrs] at h
     | some vs =>
      simp only [hrs] at h
      obtain ⟨x,hx,hrx⟩:=results_run hS2 (Reps.mono hle2 _ _ (hE (by simpa using hgone))) hres hrs
      refine ⟨x,hx,?_⟩
      split at h
      ·simp only [Option.some.injEq] at h;subst h
       exact ⟨J2,hle.trans hle2,hS2,_,x,rfl,hrx,rfl⟩
      ·split at h
       ·rename_i v st3 hset
        simp only [Option.some.injEq] at h;subst h
        obtain ⟨J3,hle3,hS3,hr3⟩:=settle_sim hS (hle.trans hle2) hS2 hset hrx
        exact ⟨J3,hle3,hS3,_,x,rfl,hr3,rfl⟩
       ·cases h
 cases qx with
 | nrm=>obtain ⟨rfl,hE⟩:=hx;exact key none _ rfl (fun _=>hE) h
 | ret=>obtain ⟨rfl,hE⟩:=hx;exact key none _ rfl (fun _=>hE) h
 | exit id=>simp [modeOf] at h
 | pan v =>
  obtain ⟨⟨z,hz,rfl⟩,hre⟩:=hx
  exact key (some v) _ ⟨z,hz,rfl⟩ (fun hg=>hre (by simpa [envGone] using hg)) h
theorem callFn_ok (G:∀t st r,g t st=some r→TaskOk P gl A B t st r) {f:FuncId} {args:List AV} {r:Res} (h:callFn A g f args st=some r) {cargs:Array Value}
  (hS:Sim (SitesOf P gl A) base J st w) (hG:GOk B gl base J) (hR:Reps J args cargs.toList) :
  (callFunc f cargs).run P w=.ok (.enter f cargs) w∧CallsIn FW 0 P f cargs w (Ends (SitesOf P gl A) base J r):=by
 unfold callFn at h
 cases hF:A.fn f with
 | none=>simp [hF] at h
 | some F =>
  simp only [hF] at h
  have hff:=hA f F hF
  unfold funcFits at hff
  split at hff
  ·rename_i fn hfn
   split at hff
   ·rename_i c hc
    simp only [Bool.and_eq_true,bne_iff_ne,beq_iff_eq] at hff
    obtain ⟨⟨⟨hname,hnt⟩,hres⟩,hcode⟩:=hff
    refine ⟨?_,?_⟩
    ·have hn : (fn.name == "runtime.NumGoroutine") = false := by simpa using hname
     simp [callFunc,hfn,hname,hc]
    ·cases hex:exec g f none F.body ⟨args++List.replicate (F.ntmps-args.length) .undef,[]⟩ st with
     | none=>simp [hex] at h
     | some q =>
      obtain ⟨qx,qf,qs⟩:=q
      simp only [hex] at h
      have hl:=hR.length
      have hR0:FrRep J ⟨args++List.replicate (F.ntmps-args.length) .undef,[]⟩ { tmps:=cargs++Array.replicate (fn.ntmps-cargs.size) Go.undef,defers:=[] }:=by
       refine ⟨?_,rfl⟩
       simp only [Array.toList_append,Array.toList_replicate]
       refine hR.append ?_
       rw [hnt,show cargs.size=args.length by simp at hl;omega]
       have:∀n,Reps J (List.replicate n AV.undef) (List.replicate n Go.undef):=by
        intro n;induction n with
        | zero=>simp [Reps]
        | succ n ih=>simp only [List.replicate_succ,Reps];exact ⟨_,_,rfl,Rep.undef,ih⟩
       exact this _
      have hexec:=exec_ok (rnd:=none) hmix hplan G hF c F.body FW J w _ _ st _ hcode (.inl rfl) F.body.noPlan id rfl hS hG hR0 hex
      refine callsIn_of_wp_marks hfn hc trivial (wpIn_mono hexec ?_)
      rintro e a' w' ⟨J',hle,hS',hdf,hx⟩
      cases hrd:runDefs qf.defs qs with
      | none =>
       simp only [hrd] at h
       exact leaveD_ok hmix hplan hA G hF hfn hc hres h hS hle hS' hdf hG hx
      | some st'' =>
       simp only [hrd] at h
       -- how it returns
       have ret:∀(hE:Reps J' qf.env a'.tmps.toList) (h:(match resultsA st'' qf.env F.results with
         | none=>none
         | some vs=>if F.keep then some (⟨.ret,⟨[oneOf vs],[]⟩,st''⟩:Res) else
          match settle st.length (oneOf vs) st'' with
          | some (v,st3)=>some ⟨.ret,⟨[v],[]⟩,st3⟩
          | none=>none)=some r),LeavesInM FW 0 P fn a'.tmps (Ends (SitesOf P gl A) base J r) a'.defers .returning w':=by
        intro hE h
        refine runDefs_ok (by simp) _ _ _ _ _ hrd hS' hdf fun w2 hS2=>?_
        cases hrs:resultsA st'' qf.env F.results with
        | none=>simp [hrs] at h
        | some vs =>
         simp only [hrs] at h
         obtain ⟨x,hx,hrx⟩:=results_run hS2 hE hres hrs
         refine ⟨x,hx,?_⟩
         split at h
         ·simp only [Option.some.injEq] at h;subst h
          exact ⟨J',hle,hS2,_,x,rfl,hrx,rfl⟩
         ·split at h
          ·rename_i v st3 hset
           simp only [Option.some.injEq] at h;subst h
           obtain ⟨J3,hle3,hS3,hr3⟩:=settle_sim hS hle hS2 hset hrx
           exact ⟨J3,hle3,hS3,_,x,rfl,hr3,rfl⟩
          ·cases h
       cases qx with
       | nrm=>obtain ⟨rfl,hE⟩:=hx;exact ret hE h
       | ret=>obtain ⟨rfl,hE⟩:=hx;exact ret hE h
       | exit id=>simp at h
       | pan v =>
        obtain ⟨⟨z,hr,rfl⟩,_⟩:=hx
        simp only [Option.some.injEq] at h;subst h
        exact runDefs_ok (by simp) _ _ _ _ _ hrd hS' hdf fun w2 hS2=>⟨J',hle,hS2,z,hr,rfl⟩
   ·cases hff
  ·cases hff
omit hA in
theorem roundFn_ok (G:∀t st r,g t st=some r→TaskOk P gl A B t st r) {q:Nat} {args:List AV} {r:Res} (h:roundFn A g q args st=some r) {cargs:Array Value} {l:Nat}
  (hS:Sim (SitesOf P gl A) base J st w) (hG:GOk B gl base J) (hl:J.ρ q=some l) (hR:Reps J args cargs.toList) :
  ∃f tmps asg body,(Instr.yield l cargs).run P w=.ok (.round l f tmps asg body) w∧RoundIn FW 0 P l f tmps asg body w (Ends (SitesOf P gl A) base J r):=by
 unfold roundFn at h
 split at h
 ·rename_i pend f site ps env d hst
  cases hF:A.fn f with
  | none=>simp [hF] at h
  | some F =>
   simp only [hF] at h
   cases hsite:F.sites[site]? with
   | none=>simp [hsite] at h
   | some p =>
    obtain ⟨asgA,bodyA⟩:=p
    simp only [hsite] at h
    split at h
    ·rename_i hlen
     obtain ⟨b,lo,h1,h2,h3,h4,⟨F',a1,b1,k1,k2,k3,k4,k5,k6⟩,h7,h8,h9⟩:=hS.obj q _ hst
     rw [hl] at h1;cases h1
     rw [hF] at k1;cases k1
     rw [hsite] at k2;cases k2
     have hcl:=hR.length
     have hsz:cargs.size=lo.params.size:=by
      have:lo.params.toList.length=ps.length:=by rw [h7]
      simp at this hcl;omega
     refine ⟨lo.fn,(lo.params.zip cargs).foldl (fun tmps (t,a)=>tmps.setIfInBounds t a) lo.tmps,lo.assign,lo.body,?_,?_⟩
     ·simp [Instr.yield,Instr.getLoop,getObj,Sem.run,h2,hsz]
     ·-- the temporaries
      have hE:Reps J ((ps.zip args).foldl (fun e (t,a)=>e.set t a) env) ((lo.params.zip cargs).foldl (fun tmps (t,a)=>tmps.setIfInBounds t a) lo.tmps).toList:=by
       rw [←Array.foldl_toList,Array.toList_zip,h7]
       have:∀(ps:List Nat) (as:List AV) (xs:List Value) (e:Env) (tm:Array Value),Reps J as xs→Reps J e tm.toList→Reps J ((ps.zip as).foldl (fun e (t,a)=>e.set t a) e) ((ps.zip xs).foldl (fun tmps (t,a)=>tmps.setIfInBounds t a) tm).toList:=by
        intro ps
        induction ps with
        | nil=>intro as xs e tm _ he;simpa using he
        | cons p ps ih =>
         intro as xs e tm hr he
         cases as with
         | nil=>simp only [Reps] at hr;subst hr;simpa using he
         | cons v as =>
          simp only [Reps] at hr
          obtain ⟨y,ys,rfl,hr1,hr2⟩:=hr
          simp only [List.zip_cons_cons,List.foldl_cons]
          refine ih as ys _ _ hr2 ?_
          simp only [Array.toList_setIfInBounds]
          exact he.set p hr1
       exact this ps args cargs.toList env lo.tmps hR h8
      have hFo:FenceOk J (FW.inRound l) (some q):=⟨l,hl,rfl⟩
      cases hx1:exec g f (some q) asgA ⟨(ps.zip args).foldl (fun e (t,a)=>e.set t a) env,[]⟩ st with
      | none=>simp [hx1] at h
      | some r1 =>
       refine roundIn_of_wpIn trivial (wpIn_mono (exec_ok hmix hplan G hF lo.assign asgA (FW.inRound l) J w { tmps:=(lo.params.zip cargs).foldl (fun tmps (t,a)=>tmps.setIfInBounds t a) lo.tmps,defers:=[] } ⟨(ps.zip args).foldl (fun e (t,a)=>e.set t a) env,[]⟩ st r1 k3 (.inr k5) false (fun e=>by cases e) hFo hS hG ⟨hE,rfl⟩ hx1) ?_)
       rintro e a' w' ⟨J1,hle,hS1,hdf,hex⟩
       obtain ⟨x1,f1,s1⟩:=r1
       rw [hx1] at h
       split at h
       ·rename_i fr1 st1 heq
        cases heq
        obtain ⟨rfl,hE1⟩:=hex
        split at h
        ·rename_i pend1 ff1 site1 ps1 env1 d1 hst1
         obtain ⟨b',lo1,g1,g2,g3,g4,g6,g7,g8,g9⟩:=hS1.obj q _ hst1
         have hb':b'=l:=by have:=hle.ρ q l hl;rw [g1] at this;exact Option.some.inj this
         subst hb'
         have hbl:=heap_lt g2
         have hupd:=hS1.upd hst1 g1 rfl (by simp) (w':={ w' with heap:=w'.heap.setIfInBounds b' (.loop { lo1 with state:=.busy }) }) (a:=.loop .busy pend1 ff1 site1 ps1 env1 d1) rfl (by simp) rfl rfl (by simp)
          (fun b2 hne=>by simp [Array.getElem?_setIfInBounds,Ne.symm hne]) ⟨b',{ lo1 with state:=.busy },g1,by simp [hbl],rfl,g4,g6,g7,g8,g9⟩
         refine ⟨{ w' with heap:=w'.heap.setIfInBounds b' (.loop { lo1 with state:=.busy }) },?_,?_⟩
         ·simp [Instr.beginRound,Instr.getLoop,getObj,setObj,Sem.run,g2,g3]
         ·cases hx2:exec g f (some q) bodyA f1 (s1.set q (.loop .busy pend1 ff1 site1 ps1 env1 d1)) with
          | none=>rw [hx2] at h;simp only [roundEnd] at h;cases h
          | some r2 =>
           refine wpIn_mono (exec_ok hmix hplan G hF lo.body bodyA (FW.inRound b') J1 _ a' f1 _ r2 k4 (.inr k6) false (fun e=>by cases e) (hFo.mono hle) hupd (hG.mono hle) ⟨hE1,hdf⟩ hx2) ?_
           rintro e2 a2 w2 ⟨J2,hle2,hS2,hdf2,hex2⟩
           obtain ⟨x2,⟨e2v,d2v⟩,s2⟩:=r2
           rw [hx2] at h
           cases d2v with
           | cons dd ds=>simp only [roundEnd] at h;cases h
           | nil =>
            simp only [roundEnd] at h
            split at h
            ·rename_i ss pp f2 site2 ps2 env2 dd2 hst2
             obtain ⟨b2,lo2,m1,m2,m3,m4,m6,m7,m8,m9⟩:=hS2.obj q _ hst2
             have hb2:b2=b':=by have:=hle2.ρ q b' g1;rw [m1] at this;exact Option.some.inj this
             subst hb2
             have hbl2:=heap_lt m2
             have upd2:∀(s:LoopState) (p:Option APend),Sim (SitesOf P gl A) base J2 (s2.set q (.loop s p f2 site2 ps2 env2 dd2)) { w2 with heap:=w2.heap.setIfInBounds b2 (.loop { lo2 with state:=s,pending:=pendCode p }) }:=by
              intro s p
              exact hS2.upd hst2 m1 rfl (by simp) (a:=.loop s p f2 site2 ps2 env2 dd2) rfl (by simp) rfl rfl (by simp)
               (fun b3 hne=>by simp [Array.getElem?_setIfInBounds,Ne.symm hne]) ⟨b2,{ lo2 with state:=s,pending:=pendCode p },m1,by simp [hbl2],rfl,rfl,m6,m7,m8,m9⟩
             cases x2 with
             | nrm =>
              simp only [Option.some.injEq] at h;subst h
              obtain ⟨rfl,_⟩:=hex2
              refine ⟨.bool true,_,?_,J2,hle.trans hle2,upd2 .ready none,.bool true,.bool true,rfl,by simp [Rep],rfl⟩
              simp [Instr.endRound,Instr.getLoop,getObj,setObj,Sem.run,m2,pendCode]
             | ret =>
              simp only [Option.some.injEq] at h;subst h
              obtain ⟨rfl,_⟩:=hex2
              refine ⟨.bool false,_,?_,J2,hle.trans hle2,upd2 .done (some .ret),.bool false,.bool false,rfl,by simp [Rep],rfl⟩
              simp [Instr.endRound,Instr.getLoop,getObj,setObj,Sem.run,m2,pendCode]
             | exit id =>
              simp only [Option.some.injEq] at h;subst h
              obtain ⟨rfl,_⟩:=hex2
              refine ⟨.bool false,_,?_,J2,hle.trans hle2,upd2 .done (some (.exit id)),.bool false,.bool false,rfl,by simp [Rep],rfl⟩
              simp [Instr.endRound,Instr.getLoop,getObj,setObj,Sem.run,m2,pendCode]
             | pan v=>simp at h
            ·cases h
        ·cases h
       ·cases h
    ·cases h
 ·cases h
def PrimsOk (P:Program) (gl:List (Nat×AV)) (A:AProg) (B:World→Prop):Prop :=
 ∀f h args st o st',A.prim f=some h→h args st=some (o,st') →
  TaskOk P gl A B (.call f args) st (match o with | .ret v=>⟨.ret,⟨[v],[]⟩,st'⟩ | .pan v=>⟨.pan v,⟨[],[]⟩,st'⟩)
theorem layer_ok (hprim:PrimsOk P gl A B) (G:∀t st r,g t st=some r→TaskOk P gl A B t st r):∀t st r,layer A g t st=some r→TaskOk P gl A B t st r:=by
 intro t st r h
 cases t with
 | call f args =>
  simp only [layer] at h
  split at h
  ·rename_i p hp
   split at h
   ·rename_i v st' he
    simp only [Option.some.injEq] at h;subst h
    exact hprim f p args st (.ret v) st' hp he
   ·rename_i v st' he
    simp only [Option.some.injEq] at h;subst h
    exact hprim f p args st (.pan v) st' hp he
   ·cases h
  ·intro base J w cargs hS hG hR
   exact .inl (callFn_ok hmix hplan hA G h hS hG hR)
 | seqc f args =>
  simp only [layer] at h
  split at h
  ·cases h
  ·intro base J w cargs hS hG hR
   exact callFn_ok hmix hplan hA G h hS hG hR
 | round q args =>
  simp only [layer] at h
  intro base J w cargs l hS hG hl hR
  exact roundFn_ok hmix hplan G h hS hG hl hR
 | loop f rnd body fr =>
  simp only [layer] at h
  intro F code hF hcode hN np hnp base J w a Fe hFe hS hG hR
  cases hx:exec g f rnd body fr st with
  | none=>simp [hx] at h
  | some q =>
   refine loopHead_round (wpIn_mono (exec_ok hmix hplan G hF code body Fe J w a fr st q hcode hN np hnp hFe hS hG hR hx) ?_)
   rintro e a' w' ⟨J',hle,hS',hdf,hex⟩
   obtain ⟨qx,qf,qs⟩:=q
   cases qx with
   | nrm =>
    simp only [hx] at h
    obtain ⟨rfl,henv⟩:=hex
    have:=G _ _ _ h F code hF hcode hN np hnp base J' w' a' Fe (hFe.mono hle) hS' (hG.mono hle) ⟨henv,hdf⟩
    intro b k cs h1 h2 h3
    obtain ⟨e,a2,w2,p,arr⟩:=this b k cs h1 h2 h3
    exact ⟨e,a2,w2,p.le hle,arr⟩
   | exit id=>simp [hx] at h;subst h;obtain ⟨rfl,henv⟩:=hex;exact ⟨J',hle,hS',hdf,rfl,henv⟩
   | ret=>simp [hx] at h;subst h;obtain ⟨rfl,henv⟩:=hex;exact ⟨J',hle,hS',hdf,rfl,henv⟩
   | pan v=>simp [hx] at h;subst h;obtain ⟨⟨z,hr,rfl⟩,hre⟩:=hex;exact ⟨J',hle,hS',hdf,⟨z,hr,rfl⟩,hre⟩
theorem runA_ok (hprim:PrimsOk P gl A B):∀n t st r,runA A n t st=some r→TaskOk P gl A B t st r
 | 0,t,st,r,h=>by cases h
 | n+1,t,st,r,h=>layer_ok hmix hplan hA hprim (runA_ok hprim n) t st r h
end
end Go.Proofs.YtgkhmmlemgikjaaGreatDoor.Ai
namespace Go.Proofs.YtgkhmmlemgikjaaGreatDoor.Ai
open Go
/-! ### The orders that the edges allow -/
def EdgeTo (ops:Array Oper) (i j:Nat):Prop:=∃o e,ops[j]?=some o∧e∈o.after∧Region.binds .any e=true∧e.on=i
inductive Path (ops:Array Oper):Nat→Nat→Prop
 | one {i j:Nat}:EdgeTo ops i j→Path ops i j
 | more {i k j:Nat}:EdgeTo ops k j→Path ops i k→Path ops i j
theorem before_path (ops:Array Oper):∀j i,((Region.before ops).getD j 0).testBit i=true→Path ops i j:=by
 have key:∀(rest done:List Oper) (acc:Array Nat),ops.toList=done++rest→acc.size=done.length→(∀j i,j<acc.size→(acc.getD j 0).testBit i=true→Path ops i j) →
   ∀j i,((rest.foldl (fun acc o=>acc.push (o.after.foldl (fun s e=>if Region.binds .any e then s ||| 2 ^ e.on ||| acc.getD e.on 0 else s) 0)) acc).getD j 0).testBit i=true→Path ops i j:=by
  intro rest
  induction rest with
  | nil =>
   intro done acc _ _ hacc j i h
   simp only [List.foldl_nil] at h
   by_cases hj:j<acc.size
   ·exact hacc j i hj h
   ·rw [Array.getD_eq_getD_getElem?,Array.getElem?_eq_none (by omega)] at h;simp at h
  | cons o rest ih =>
   intro done acc hops hsz hacc j i h
   simp only [List.foldl_cons] at h
   refine ih (done++[o]) _ (by simpa using hops) (by simp [hsz]) ?_ j i h
   intro j i hj hb
   simp only [Array.size_push] at hj
   by_cases hj':j<acc.size
   ·rw [Array.getD_eq_getD_getElem?,Array.getElem?_push_lt hj'] at hb
    refine hacc j i hj' ?_
    rw [Array.getD_eq_getD_getElem?,Array.getElem?_eq_getElem hj'];exact hb
   ·have hje:j=acc.size:=by omega
    subst hje
    rw [Array.getD_eq_getD_getElem?,Array.getElem?_push_size] at hb
    simp only [Option.getD_some] at hb
    have hoj:ops[acc.size]?=some o:=by
     have:ops.toList[acc.size]?=some o:=by rw [hops,List.getElem?_append_right (by omega)];simp [hsz]
     simpa using this
    have bits:∀(es:List Edge) (s:Nat),(∀e∈es,e∈o.after)→(s.testBit i=true→Path ops i acc.size) →
      (es.foldl (fun s e=>if Region.binds .any e then s ||| 2 ^ e.on ||| acc.getD e.on 0 else s) s).testBit i=true→Path ops i acc.size:=by
     intro es
     induction es with
     | nil=>intro s _ hs h;exact hs h
     | cons e es ihe =>
      intro s hmem hs h
      simp only [List.foldl_cons] at h
      refine ihe _ (fun e' he'=>hmem e' (List.mem_cons_of_mem _ he')) ?_ h
      intro hb
      split at hb
      ·rename_i hbind
       simp only [Nat.testBit_or,Bool.or_eq_true] at hb
       have hedge:EdgeTo ops e.on acc.size:=⟨o,e,hoj,hmem e (List.mem_cons_self ..),hbind,rfl⟩
       rcases hb with (hb | hb) | hb
       ·exact hs hb
       ·rw [Nat.testBit_two_pow] at hb
        simp at hb;subst hb;exact .one hedge
       ·by_cases hlt:e.on<acc.size
        ·exact .more hedge (hacc _ _ hlt hb)
        ·rw [Array.getD_eq_getD_getElem?,Array.getElem?_eq_none (by omega)] at hb;simp at hb
      ·exact hs hb
    refine bits o.after.toList 0 (fun e he=>Array.mem_toList_iff.1 he) (by simp) ?_
    rw [←Array.foldl_toList] at hb;exact hb
 intro j i h
 unfold Region.before at h
 rw [←Array.foldl_toList] at h
 exact key ops.toList [] #[] (by simp) rfl (fun j i hj=>by simp at hj) j i h
def Ext (ops:Array Oper):List Nat→List Nat→Prop
 | _,[]=>True
 | D,i::is=>(∀k,EdgeTo ops k i→k∈D)∧Ext ops (i::D) is
theorem Ext.snoc {ops:Array Oper}:∀(is:List Nat) (D:List Nat) (i:Nat),Ext ops D is→(∀k,EdgeTo ops k i→k∈is.reverse++D)→Ext ops D (is++[i])
 | [],D,i,_,h=>⟨by simpa using h,trivial⟩
 | j::is,D,i,⟨h1,h2⟩,h=>⟨h1,Ext.snoc is (j::D) i h2 (fun k hk=>by simpa using h k hk)⟩
theorem cover_length:∀(n:Nat) (l:List Nat),(∀i,i<n→i∈l)→n≤l.length
 | 0,_,_=>Nat.zero_le _
 | n+1,l,h=>by
  have hm:=h n (Nat.lt_succ_self n)
  have:=cover_length n (l.erase n) (fun i hi=>(List.mem_erase_of_ne (by omega)).2 (h i (by omega)))
  rw [List.length_erase_of_mem hm] at this
  have:=List.length_pos_of_mem hm
  omega
theorem pigeon:∀(n:Nat) (l:List Nat),l.Nodup→(∀x∈l,x<n)→l.length=n→∀i,i<n→i∈l:=by
 intro n l hn hlt hlen i hi
 by_cases h:i∈l
 ·exact h
 ·exfalso
  -- with i,one more than there is room for
  have key:∀(n:Nat) (l:List Nat),l.Nodup→(∀x∈l,x<n)→l.length≤n:=by
   intro n
   induction n with
   | zero=>intro l _ hl;cases l with
    | nil=>simp
    | cons a l=>exact absurd (hl a (by simp)) (by omega)
   | succ n ih =>
    intro l hn hl
    have h1:=ih (l.erase n) (hn.erase n) (fun x hx=>by
     have hx':=hn.mem_erase_iff.1 hx
     have:=hl x hx'.2
     have:=hx'.1
     omega)
    have h2:l.length≤(l.erase n).length+1:=by
     by_cases hm:n∈l
     ·rw [List.length_erase_of_mem hm];omega
     ·rw [List.erase_of_not_mem hm];omega
    omega
  have:=key n (i::l) (List.nodup_cons.2 ⟨h,hn⟩) (fun x hx=>by
   rcases List.mem_cons.1 hx with rfl | hx
   ·exact hi
   ·exact hlt x hx)
  simp at this;omega
theorem linearise_ext {ops:Array Oper} (hac:∀i o,ops[i]?=some o→∀e∈o.after,Region.binds .any e=true→e.on<i) (t:Nat) :
  let l:=Region.linearise .any ops t
  l.Nodup∧(∀i,i∈l↔i<ops.size)∧Ext ops [] l:=by
 have key:∀(fuel t:Nat) (listed:Array Bool) (acc:List Nat),listed.size=ops.size→(∀i,i<ops.size→(listed.getD i true=true↔i∈acc))→acc.Nodup→(∀i∈acc,i<ops.size)→fuel+acc.length=ops.size→Ext ops [] acc.reverse →
   (Region.linearise.go .any ops fuel t listed acc).Nodup∧(∀i,i∈Region.linearise.go .any ops fuel t listed acc↔i<ops.size)∧Ext ops [] (Region.linearise.go .any ops fuel t listed acc):=by
  intro fuel
  induction fuel with
  | zero =>
   intro t listed acc hs hl hn hlt hlen hext
   simp only [Region.linearise.go]
   refine ⟨List.pairwise_reverse.2 (hn.imp Ne.symm),fun i=>?_,hext⟩
   rw [List.mem_reverse]
   exact ⟨hlt i,fun hi=>pigeon _ acc hn hlt (by omega) i hi⟩
  | succ fuel ih =>
   intro t listed acc hs hl hn hlt hlen hext
   simp only [Region.linearise.go]
   generalize hrs:((List.range ops.size).filter fun i=>!listed.getD i true && ((ops[i]?).map (·.after.all fun e=>!Region.binds .any e || listed.getD e.on false)).getD false)=rs
   have hmem:∀i∈rs,i<ops.size∧i ∉ acc∧∀k,EdgeTo ops k i→k∈acc:=by
    intro i hi
    rw [←hrs,List.mem_filter,List.mem_range,Bool.and_eq_true] at hi
    obtain ⟨hi1,hi2,hi3⟩:=hi
    refine ⟨hi1,fun hc=>?_,?_⟩
    ·rw [(hl i hi1).2 hc] at hi2;simp at hi2
    ·rintro k ⟨o,e,ho,he,hb,rfl⟩
     rw [ho] at hi3
     simp only [Option.map_some,Option.getD_some] at hi3
     rw [Array.all_eq_true'] at hi3
     have:=hi3 e he
     simp only [hb,Bool.not_true,Bool.false_or] at this
     have hk:=hac i o ho e he hb
     refine (hl e.on (by omega)).1 ?_
     rw [Array.getD_eq_getD_getElem?] at this ⊢
     rw [Array.getElem?_eq_getElem (by omega)] at this ⊢
     exact this
   have hne:rs≠[]:=by
    -- the least that is not listed
    have hex:∃i,i<ops.size∧i ∉ acc:=by
     by_cases h:∃i,i<ops.size∧i ∉ acc
     ·exact h
     ·exfalso
      have:=cover_length ops.size acc (fun j hj=>by
       by_cases hjc:j∈acc
       ·exact hjc
       ·exact absurd ⟨j,hj,hjc⟩ h)
      omega
    obtain ⟨i,⟨hi1,hi2⟩,hmin⟩:∃i,(i<ops.size∧i ∉ acc)∧∀j,j<i→¬(j<ops.size∧j ∉ acc):=by
     obtain ⟨i,hi⟩:=hex
     induction i using Nat.strongRecOn with
     | _ i ihi =>
      by_cases h:∃j,j<i∧(j<ops.size∧j ∉ acc)
      ·obtain ⟨j,hj,hjj⟩:=h;exact ihi j hj hjj
      ·exact ⟨i,hi,fun j hj hjj=>h ⟨j,hj,hjj⟩⟩
    intro hnil
    have:i∈rs:=by
     rw [←hrs,List.mem_filter,List.mem_range,Bool.and_eq_true]
     refine ⟨hi1,?_,?_⟩
     ·cases hv:listed.getD i true with
      | false=>rfl
      | true=>exact absurd ((hl i hi1).1 hv) hi2
     ·rw [Array.getElem?_eq_getElem hi1]
      simp only [Option.map_some,Option.getD_some]
      rw [Array.all_eq_true']
      intro e he
      cases hb:Region.binds .any e with
      | false=>rfl
      | true =>
       simp only [Bool.not_true,Bool.false_or]
       have hk:=hac i _ (Array.getElem?_eq_getElem hi1) e he hb
       have hin:e.on∈acc:=by
        by_cases hc:e.on∈acc
        ·exact hc
        ·exact absurd ⟨by omega,hc⟩ (hmin e.on hk)
       have:=(hl e.on (by omega)).2 hin
       rw [Array.getD_eq_getD_getElem?] at this ⊢
       rw [Array.getElem?_eq_getElem (by omega)] at this ⊢
       exact this
    rw [hnil] at this;cases this
   have hpos:0<rs.length:=List.length_pos_iff.2 hne
   have hget:rs[t % rs.length]?=some (rs[t % rs.length]'(Nat.mod_lt _ hpos)):=List.getElem?_eq_getElem _
   rw [hget]
   simp only []
   have hi:=hmem _ (List.getElem_mem (Nat.mod_lt t hpos))
   generalize rs[t % rs.length]'(Nat.mod_lt _ hpos)=i at hi
   obtain ⟨hi1,hi2,hi3⟩:=hi
   refine ih (t / rs.length) (listed.setIfInBounds i true) (i::acc) (by simpa using hs) ?_ (List.nodup_cons.2 ⟨hi2,hn⟩) ?_ (by simp;omega) ?_
   ·intro j hj
    rw [Array.getD_eq_getD_getElem?,Array.getElem?_setIfInBounds]
    by_cases hij:i=j
    ·subst hij;simp [show i<listed.size by omega]
    ·rw [if_neg hij]
     have:=hl j hj
     rw [Array.getD_eq_getD_getElem?] at this
     rw [this];simp [Ne.symm hij]
   ·intro j hj
    rcases List.mem_cons.1 hj with rfl | hj
    ·exact hi1
    ·exact hlt j hj
   ·rw [List.reverse_cons]
    exact hext.snoc _ _ _ (fun k hk=>by simpa using hi3 k hk)
 exact key ops.size t (Array.replicate ops.size false) [] (by simp) (fun i hi=>by simp [Array.getD_eq_getD_getElem?,hi]) List.nodup_nil (fun i h=>by simp at h) (by simp) trivial
end Go.Proofs.YtgkhmmlemgikjaaGreatDoor.Ai
namespace Go.Proofs.YtgkhmmlemgikjaaGreatDoor.Ai
open Go
theorem opA_congr {ao:AOp} {e e':Env} {st:St} (h:∀x∈ao.xs,x.ev e=x.ev e'):opA ao e st=opA ao e' st:=by
 have hl:∀lo:Option AX,(∀x∈lo.toList,x.ev e=x.ev e')→lo.map (AX.ev e)=lo.map (AX.ev e'):=by
  intro lo hlo
  cases lo with
  | none=>rfl
  | some x=>simp [hlo x (by simp)]
 have hm:∀l:List AX,(∀x∈l,x.ev e=x.ev e')→l.map (AX.ev e)=l.map (AX.ev e'):=fun l hl=>List.map_congr_left hl
 have hp:∀ps:List (Nat×Nat×AX),(∀x∈ps.map (·.2.2),x.ev e=x.ev e')→(ps.map fun (o,s,x)=>(o,s,x.ev e))=ps.map fun (o,s,x)=>(o,s,x.ev e'):=by
  intro ps hps
  refine List.map_congr_left fun p hp=>?_
  obtain ⟨a,b,x⟩:=p
  simp only
  rw [hps x (List.mem_map.2 ⟨_,hp,rfl⟩)]
 cases ao with
 | pick a b c=>simp only [opA,h a (by simp [AOp.xs]),h b (by simp [AOp.xs]),h c (by simp [AOp.xs])]
 | new z mu=>rfl
 | mkMap=>rfl
 | lenArr n=>rfl
 | build z ps=>simp only [opA,hp ps h]
 | mkLit m z ps mu=>simp only [opA,hp ps h]
 | mkFunc f a b=>simp only [opA,hm a (fun x hx=>h x (by simp [AOp.xs,hx])),hm b (fun x hx=>h x (by simp [AOp.xs,hx]))]
 | sliceStr x lo hi=>simp only [opA,h x (by simp [AOp.xs]),hl lo (fun y hy=>h y (by simp [AOp.xs] at hy ⊢;simp [hy])),hl hi (fun y hy=>h y (by simp [AOp.xs] at hy ⊢;simp [hy]))]
 | sliceArr n m x lo hi=>simp only [opA,h x (by simp [AOp.xs]),hl lo (fun y hy=>h y (by simp [AOp.xs] at hy ⊢;simp [hy])),hl hi (fun y hy=>h y (by simp [AOp.xs] at hy ⊢;simp [hy]))]
 | sliceLst m x lo hi mx =>
  have h1:=h x (by simp [AOp.xs])
  have h2:=hl lo (fun y hy=>h y (by simp [AOp.xs] at hy ⊢;simp [hy]))
  have h3:=hl hi (fun y hy=>h y (by simp [AOp.xs] at hy ⊢;simp [hy]))
  cases mx with
  | none=>simp only [opA,h1,h2,h3]
  | some z=>simp only [opA,h1,h2,h3,h z (by simp [AOp.xs])]
 | mapUpdate k a b c=>simp only [opA,h a (by simp [AOp.xs]),h b (by simp [AOp.xs]),h c (by simp [AOp.xs])]
 | call f as=>simp only [opA,h f (by simp [AOp.xs]),hm as (fun x hx=>h x (by simp [AOp.xs,hx]))]
 | minmax b xs=>simp only [opA,hm xs h]
 | defer f as=>simp only [opA,h f (by simp [AOp.xs]),hm as (fun x hx=>h x (by simp [AOp.xs,hx]))]
 | recover=>rfl
 | valloc m=>rfl
 | vbox m d x=>simp only [opA,h x (by simp [AOp.xs]),h (.t d) (by simp [AOp.xs])]
 | mov x=>simp only [opA,h x (by simp [AOp.xs])]
 | movT x=>simp only [opA,h x (by simp [AOp.xs])]
 | box m x mu=>simp only [opA,h x (by simp [AOp.xs])]
 | boxT T m x=>simp only [opA,h x (by simp [AOp.xs])]
 | load m a x=>simp only [opA,h x (by simp [AOp.xs])]
 | nilCheck x=>simp only [opA,h x (by simp [AOp.xs])]
 | un o x=>simp only [opA,h x (by simp [AOp.xs])]
 | convInt k x=>simp only [opA,h x (by simp [AOp.xs])]
 | convSame x=>simp only [opA,h x (by simp [AOp.xs])]
 | convBytes mu x=>simp only [opA,h x (by simp [AOp.xs])]
 | convStr x=>simp only [opA,h x (by simp [AOp.xs])]
 | mkIface t x=>simp only [opA,h x (by simp [AOp.xs])]
 | fieldAddr a b c x=>simp only [opA,h x (by simp [AOp.xs])]
 | field a b c x=>simp only [opA,h x (by simp [AOp.xs])]
 | extract x i=>simp only [opA,h x (by simp [AOp.xs])]
 | assertT a b c x=>simp only [opA,h x (by simp [AOp.xs])]
 | lenStr x=>simp only [opA,h x (by simp [AOp.xs])]
 | lenSl x=>simp only [opA,h x (by simp [AOp.xs])]
 | lenMap x=>simp only [opA,h x (by simp [AOp.xs])]
 | panic x=>simp only [opA,h x (by simp [AOp.xs])]
 | store m a x=>simp only [opA,h a (by simp [AOp.xs]),h x (by simp [AOp.xs])]
 | bin o a x=>simp only [opA,h a (by simp [AOp.xs]),h x (by simp [AOp.xs])]
 | eqBool o a x=>simp only [opA,h a (by simp [AOp.xs]),h x (by simp [AOp.xs])]
 | eqAgg k o a x=>simp only [opA,h a (by simp [AOp.xs]),h x (by simp [AOp.xs])]
 | eqPtr o a x=>simp only [opA,h a (by simp [AOp.xs]),h x (by simp [AOp.xs])]
 | eqIface o a x=>simp only [opA,h a (by simp [AOp.xs]),h x (by simp [AOp.xs])]
 | mkSlice a1 a2 a3 a x t=>simp only [opA,h a (by simp [AOp.xs]),h x (by simp [AOp.xs])]
 | indexAddr a1 a2 a3 a x=>simp only [opA,h a (by simp [AOp.xs]),h x (by simp [AOp.xs])]
 | indexStr a x=>simp only [opA,h a (by simp [AOp.xs]),h x (by simp [AOp.xs])]
 | indexArr a1 a2 a3 a x=>simp only [opA,h a (by simp [AOp.xs]),h x (by simp [AOp.xs])]
 | lookup a1 a2 a3 a x=>simp only [opA,h a (by simp [AOp.xs]),h x (by simp [AOp.xs])]
 | append a1 a2 a3 a x=>simp only [opA,h a (by simp [AOp.xs]),h x (by simp [AOp.xs])]
 | copy a1 a x=>simp only [opA,h a (by simp [AOp.xs]),h x (by simp [AOp.xs])]
 | appendM a1 a2 a x=>simp only [opA,h a (by simp [AOp.xs]),h x (by simp [AOp.xs])]
 | clearSl a1 a2 x=>simp only [opA,h x (by simp [AOp.xs])]
def P2 (a b:Option Nx) (st st2:St):Prop:=∀nx,a=some nx→∃v,nx=.val v st∧b=some (.val v st2)
theorem P2.none {b:Option Nx} {st st2:St}:P2 none b st st2:=fun _ h=>by cases h
theorem P2.val {v:AV} {st st2:St}:P2 (some (.val v st)) (some (.val v st2)) st st2:=fun _ h=>by cases h;exact ⟨v,rfl,rfl⟩
theorem P2.map {α:Type} {x:Option α} {f f2:α→Nx} {st st2:St} (h:∀a,∃v,f a=.val v st∧f2 a=.val v st2):P2 (x.map f) (x.map f2) st st2:=fun r hr=>by
 cases x with
 | none=>cases hr
 | some a =>
  simp only [Option.map_some,Option.some.injEq] at hr
  obtain ⟨v,h1,h2⟩:=h a
  exact ⟨v,by rw [←hr,h1],by simp [h2]⟩
theorem P2.bind {α:Type} {x:Option α} {f f2:α→Option Nx} {st st2:St} (h:∀a,P2 (f a) (f2 a) st st2):P2 (x.bind f) (x.bind f2) st st2:=fun r hr=>by
 cases x with
 | none=>cases hr
 | some a=>exact h a r hr
theorem opA_pure {ao:AOp} {e:Env} (hc:ao.cls=0) (st st2:St):P2 (opA ao e st) (opA ao e st2) st st2:=by
 cases ao with
 | new z mu =>
  cases mu<;>simp [AOp.cls] at hc
  simp only [opA,Bool.false_eq_true,if_false];exact P2.val
 | box m x mu =>
  cases mu<;>simp [AOp.cls] at hc
  simp only [opA,Bool.false_eq_true,if_false]
  split
  ·exact P2.val
  ·exact P2.none
 | mkLit m z ps mu =>
  cases mu<;>simp [AOp.cls] at hc
  simp only [opA,Bool.false_eq_true,if_false]
  exact P2.map fun a=>⟨_,rfl,rfl⟩
 | convBytes mu x =>
  cases mu<;>simp [AOp.cls] at hc
  simp only [opA,Bool.false_eq_true,if_false]
  split
  ·exact P2.val
  ·exact P2.none
 | _ =>
  first
  | (simp [AOp.cls] at hc;done)
  | (simp only [opA]
     repeat' (first | exact P2.none | exact P2.val | (refine P2.map fun _=>⟨_,rfl,rfl⟩) | (refine P2.bind fun _=>?_) | split))
theorem opA_read {ao:AOp} {e:Env} {st:St} {nx:Nx} (hc:ao.cls≠2) (h:opA ao e st=some nx):∃v,nx=.val v st:=by
 by_cases h0:ao.cls=0
 ·obtain ⟨v,h1,_⟩:=opA_pure h0 st st nx h;exact ⟨v,h1⟩
 ·have:P2 (opA ao e st) (opA ao e st) st st:=by
   cases ao with
   | new z mu=>cases mu<;>simp [AOp.cls] at hc h0
   | box m x mu=>cases mu<;>simp [AOp.cls] at hc h0
   | mkLit m z ps mu=>cases mu<;>simp [AOp.cls] at hc h0
   | convBytes mu x=>cases mu<;>simp [AOp.cls] at hc h0
   | _ =>
    first
    | (exfalso;simp [AOp.cls] at hc h0;done)
    | (simp only [opA]
       repeat' (first | exact P2.none | exact P2.val | (refine P2.map fun _=>⟨_,rfl,rfl⟩) | (refine P2.bind fun _=>?_) | split))
  obtain ⟨v,h1,_⟩:=this nx h
  exact ⟨v,h1⟩
structure Agree (o:AOper) (e e':Env):Prop where
 op:∀x∈o.op.xs,x.ev e=x.ev e'
 guard:∀t w,o.guard=some (t,w)→e[t]?=e'[t]?
theorem mem_xTmps {i:Nat}:∀{xs:List AX},AX.t i∈xs→i∈xTmps xs
 | .t j::xs,h=>by
  rcases List.mem_cons.1 h with h | h
  ·cases h;simp [xTmps]
  ·simp [xTmps,mem_xTmps h]
 | .k v::xs,h=>by
  rcases List.mem_cons.1 h with h | h
  ·cases h
  ·simpa [xTmps] using mem_xTmps h
theorem Agree.of {o:AOper} {e e':Env} (h:∀t,(t∈xTmps o.op.xs∨∃w,o.guard=some (t,w))→e[t]?=e'[t]?):Agree o e e':=by
 refine ⟨fun x hx=>?_,fun t w hw=>h t (.inr ⟨w,hw⟩)⟩
 cases x with
 | t i =>
  simp only [AX.ev,List.getD_eq_getElem?_getD]
  rw [h i (.inl (mem_xTmps hx))]
 | k v=>rfl
theorem setDst_get {d:Option Nat} {e:Env} {v:AV} {t:Nat} (h:d≠some t):(setDst d e v)[t]?=e[t]?:=by
 cases d with
 | none=>rfl
 | some d =>
  simp only [setDst]
  exact List.getElem?_set_ne (fun hh=>h (by rw [hh]))
theorem Agree.write {z x:AOper} {e:Env} {v:AV} (h:z.writes x=false):Agree x (setDst z.dst e v) e:=by
 refine Agree.of fun t ht=>setDst_get fun hd=>?_
 unfold AOper.writes at h
 rw [hd] at h
 simp only [List.contains_eq_mem,decide_eq_false_iff_not] at h
 refine h ?_
 unfold AOper.names
 rcases ht with ht | ⟨w,hw⟩
 ·simp [ht]
 ·simp [hw]
section
variable {g:Task→St→Option Res}
theorem wantedA_congr {o:AOper} {e e':Env} (h:Agree o e e'):wantedA o.guard e=wantedA o.guard e':=by
 cases hg:o.guard with
 | none=>rfl
 | some p=>obtain ⟨t,w⟩:=p;simp only [wantedA,h.guard t w hg]
theorem doOp_congr {o:AOper} {e e':Env} {d:List ADef} {st:St} {q:Res} (h:Agree o e e') (hq:doOp g o ⟨e,d⟩ st=some q) :
  (∃v d' st',q=⟨.nrm,⟨setDst o.dst e v,d'⟩,st'⟩∧doOp g o ⟨e',d⟩ st=some ⟨.nrm,⟨setDst o.dst e' v,d'⟩,st'⟩) ∨
  (∃v st',q=⟨.pan v,⟨e,d⟩,st'⟩∧doOp g o ⟨e',d⟩ st=some ⟨.pan v,⟨e',d⟩,st'⟩):=by
 unfold doOp at hq ⊢
 simp only [←wantedA_congr h,←opA_congr (st:=st) h.op]
 cases hw:wantedA o.guard e with
 | none=>simp [hw] at hq
 | some b =>
  cases b with
  | false =>
   simp only [hw,Option.some.injEq] at hq;subst hq
   exact .inl ⟨.undef,d,st,rfl,rfl⟩
  | true =>
   simp only [hw] at hq
   simp only []
   cases ho:opA o.op e st with
   | none=>simp [ho] at hq
   | some nx =>
    simp only [ho] at hq
    cases nx with
    | val v st'=>simp only [Option.some.injEq] at hq;subst hq;exact .inl ⟨v,d,st',rfl,rfl⟩
    | pan v=>simp only [Option.some.injEq] at hq;subst hq;exact .inr ⟨v,st,rfl,rfl⟩
    | defer dd=>simp only [Option.some.injEq] at hq;subst hq;exact .inl ⟨.undef,dd::d,st,rfl,rfl⟩
    | call f args =>
     simp only [] at hq
     split at hq
     ·rename_i v dd st' hg
      simp only [Option.some.injEq] at hq;subst hq
      exact .inl ⟨v,d,st',rfl,by simp [hg]⟩
     ·rename_i v fr st' hg
      simp only [Option.some.injEq] at hq;subst hq
      exact .inr ⟨v,st',rfl,by simp [hg]⟩
     ·cases hq
    | round r args =>
     simp only [] at hq
     split at hq
     ·rename_i v dd st' hg
      simp only [Option.some.injEq] at hq;subst hq
      exact .inl ⟨v,d,st',rfl,by simp [hg]⟩
     ·rename_i v fr st' hg
      simp only [Option.some.injEq] at hq;subst hq
      exact .inr ⟨v,st',rfl,by simp [hg]⟩
     ·cases hq
theorem doOp_quiet {o:AOper} {e:Env} {d:List ADef} {st:St} {q:Res} (hc:o.op.cls≠2) (hq:doOp g o ⟨e,d⟩ st=some q) :
  ∃v,q=⟨.nrm,⟨setDst o.dst e v,d⟩,st⟩∧((wantedA o.guard e=some false∧v=.undef)∨(wantedA o.guard e=some true∧opA o.op e st=some (.val v st))):=by
 unfold doOp at hq
 cases hw:wantedA o.guard e with
 | none=>simp [hw] at hq
 | some b =>
  cases b with
  | false =>
   simp only [hw,Option.some.injEq] at hq;subst hq
   exact ⟨.undef,rfl,.inl ⟨rfl,rfl⟩⟩
  | true =>
   simp only [hw] at hq
   cases ho:opA o.op e st with
   | none=>simp [ho] at hq
   | some nx =>
    obtain ⟨v,rfl⟩:=opA_read hc ho
    simp only [ho,Option.some.injEq] at hq;subst hq
    exact ⟨v,rfl,.inr ⟨rfl,rfl⟩⟩
end
end Go.Proofs.YtgkhmmlemgikjaaGreatDoor.Ai
namespace Go.Proofs.YtgkhmmlemgikjaaGreatDoor.Ai
open Go
def FX (bf:Array Nat) (x:AStep):List AStep→List AStep→Prop
 | _,[]=>True
 | mid,y::ys=>pairOk bf x mid y=true∧FX bf x (mid++[y]) ys
def PG (bf:Array Nat):List AStep→Prop
 | []=>True
 | x::rest=>FX bf x [] rest∧PG bf rest
theorem FX.of {bf:Array Nat} {x:AStep}:∀{ys mid:List AStep},fromX bf x mid ys=true→FX bf x mid ys
 | [],_,_=>trivial
 | y::ys,mid,h=>by
  simp only [fromX,Bool.and_eq_true] at h
  exact ⟨h.1,FX.of h.2⟩
theorem PG.of {bf:Array Nat}:∀{l:List AStep},planPairs bf l=true→PG bf l
 | [],_=>trivial
 | x::rest,h=>by
  simp only [planPairs,Bool.and_eq_true] at h
  exact ⟨FX.of h.1,PG.of h.2⟩
theorem pairOk_mono {bf:Array Nat} {x y:AStep} {mid mid':List AStep} (hs:∀z∈mid',z∈mid) (h:pairOk bf x mid y=true):pairOk bf x mid' y=true:=by
 simp only [pairOk,Bool.and_eq_true,Bool.or_eq_true] at h ⊢
 refine ⟨?_,h.2⟩
 rcases h.1 with h1 | ⟨h1,h2⟩
 ·exact .inl h1
 ·refine .inr ⟨h1,?_⟩
  rw [List.all_eq_true] at h2 ⊢
  intro z hz
  rcases List.mem_append.1 hz with hz | hz
  ·exact h2 z (List.mem_append_left _ (hs z hz))
  ·exact h2 z (List.mem_append_right _ hz)
theorem FX.mono {bf:Array Nat} {x:AStep}:∀{ys mid mid':List AStep},(∀z∈mid',z∈mid)→FX bf x mid ys→FX bf x mid' ys
 | [],_,_,_,_=>trivial
 | y :: ys, mid, mid', hs, h => ⟨pairOk_mono hs h.1, FX.mono (fun z hz => by
     rcases List.mem_append.1 hz with hz | hz
     ·exact List.mem_append_left _ (hs z hz)
     ·exact List.mem_append_right _ hz) h.2⟩
theorem FX.remove {bf:Array Nat} {x s:AStep}:∀{ys mid post:List AStep},FX bf x mid (ys++s::post)→FX bf x mid (ys++post)
 | [],_,_,h=>FX.mono (fun _ hz=>List.mem_append_left _ hz) h.2
 | _::ys,_,_,h=>⟨h.1,FX.remove (ys:=ys) h.2⟩
theorem FX.get {bf:Array Nat} {x s:AStep}:∀{ys mid post:List AStep},FX bf x mid (ys++s::post)→pairOk bf x (mid++ys) s=true
 | [],_,_,h=>by simpa using h.1
 | y::ys,mid,post,h=>by
  have:=FX.get (ys:=ys) h.2
  simpa using this
theorem PG.remove {bf:Array Nat} {s:AStep}:∀{pre post:List AStep},PG bf (pre++s::post)→PG bf (pre++post)
 | [],_,h=>h.2
 | _::pre,_,h=>⟨FX.remove (ys:=pre) h.1,PG.remove (pre:=pre) h.2⟩
structure PlanG (bf:Array Nat) (all L:List AStep):Prop where
 pair:PG bf L
 re:∀s∈L,s.o.op.cls=2∨s.re=[]
 uniq:∀s∈L,(all.find? fun q=>q.i == s.i)=some s
theorem PlanG.remove {bf:Array Nat} {all pre post:List AStep} {s:AStep} (h:PlanG bf all (pre++s::post)):PlanG bf all (pre++post) :=
 ⟨PG.remove h.pair,fun x hx=>h.re x (by simp at hx ⊢;rcases hx with hx | hx<;>simp [hx]),fun x hx=>h.uniq x (by simp at hx ⊢;rcases hx with hx | hx<;>simp [hx])⟩
theorem setDst_comm {d d':Option Nat} {e:Env} {v v':AV} (h:∀t,d=some t→d'≠some t):setDst d (setDst d' e v') v=setDst d' (setDst d e v) v':=by
 cases d with
 | none=>rfl
 | some t =>
  cases d' with
  | none=>rfl
  | some t' =>
   simp only [setDst]
   exact List.set_comm v' v (fun hh=>h t rfl (by rw [hh]))
theorem writes_false {z x:AOper} (h:z.writes x=false):∀t,z.dst=some t→t ∉ x.names:=by
 intro t ht
 unfold AOper.writes at h
 rw [ht] at h
 simpa using h
theorem dst_names {x:AOper} {t:Nat} (h:x.dst=some t):t∈x.names:=by simp [AOper.names,h]
section
variable {g:Task→St→Option Res} {bf:Array Nat} {all:List AStep}
theorem doOp_val {o:AOper} {e:Env} {d:List ADef} {st st':St} {v:AV} (hw:wantedA o.guard e=some true) (ho:opA o.op e st=some (.val v st')):doOp g o ⟨e,d⟩ st=some ⟨.nrm,⟨setDst o.dst e v,d⟩,st'⟩:=by
 simp [doOp,hw,ho]
theorem doOp_not {o:AOper} {e:Env} {d:List ADef} {st:St} (hw:wantedA o.guard e=some false):doOp g o ⟨e,d⟩ st=some ⟨.nrm,⟨setDst o.dst e .undef,d⟩,st⟩:=by
 simp [doOp,hw]
theorem move:∀(pre:List AStep) (x:AStep) (post:List AStep) (e:Env) (d:List ADef) (st:St) (r:Res),PlanG bf all (pre++x::post)→(∀p∈pre,(bf.getD x.i 0).testBit p.i=false) →
  doSteps g all (pre++x::post) ⟨e,d⟩ st=some r →
  (∃v d1 st1,doOp g x.o ⟨e,d⟩ st=some ⟨.nrm,⟨setDst x.o.dst e v,d1⟩,st1⟩∧doSteps g all (pre++post) ⟨setDst x.o.dst e v,d1⟩ st1=some r ∧
   ∃eC dC,reAll all x.re ⟨eC,dC⟩ st1=true∧∀t,(∀z∈pre,z.o.dst≠some t)→eC[t]?=(setDst x.o.dst e v)[t]?) ∨
  (∃v st1,doOp g x.o ⟨e,d⟩ st=some ⟨.pan v,⟨e,d⟩,st1⟩∧r.x=.pan v∧r.st=st1∧r.fr.defs=d)
 | [],x,post,e,d,st,r,hP,hb,h=>by
  simp only [List.nil_append,doSteps] at h ⊢
  cases hd:doOp g x.o ⟨e,d⟩ st with
  | none=>simp [hd] at h
  | some q =>
   rcases doOp_congr (e':=e) ⟨fun _ _=>rfl,fun _ _ _=>rfl⟩ hd with ⟨v,d',st',rfl,_⟩ | ⟨v,st',rfl,_⟩
   ·simp only [hd] at h
    split at h
    ·rename_i hre
     exact .inl ⟨v,d',st',rfl,h,_,d',hre,fun t _=>rfl⟩
    ·cases h
   ·simp only [hd,Option.some.injEq] at h;subst h
    exact .inr ⟨v,st',rfl,rfl,rfl,rfl⟩
 | p::pre,x,post,e,d,st,r,hP,hb,h=>by
  simp only [List.cons_append,doSteps] at h
  have hpair:=FX.get (ys:=pre) hP.pair.1
  simp only [List.nil_append] at hpair
  have hnb:=hb p (List.mem_cons_self ..)
  simp only [pairOk,hnb,Bool.false_or,Bool.and_eq_true,Bool.or_eq_true,Bool.not_eq_true',bne_iff_ne,beq_iff_eq] at hpair
  obtain ⟨hre,⟨⟨hpx,hxp⟩,hpc⟩,hcase⟩:=hpair
  have hpre:p.re=[]:=by
   rcases hP.re p (by simp) with h | h
   ·exact absurd h hpc
   ·exact h
  cases hd:doOp g p.o ⟨e,d⟩ st with
  | none=>simp [hd] at h
  | some q =>
   obtain ⟨vp,rfl,hvp⟩:=doOp_quiet hpc hd
   simp only [hd,hpre,reAll,List.all_nil,if_true] at h
   have hP':PlanG bf all (pre++x::post):=⟨hP.pair.2,fun s hs=>hP.re s (by simp at hs ⊢;exact .inr hs),fun s hs=>hP.uniq s (by simp at hs ⊢;exact .inr hs)⟩
   have ih:=move pre x post (setDst p.o.dst e vp) d st r hP' (fun z hz=>hb z (List.mem_cons_of_mem _ hz)) h
   have hag:Agree x.o (setDst p.o.dst e vp) e:=Agree.write hpx
   have hcomm:∀v,setDst x.o.dst (setDst p.o.dst e vp) v=setDst p.o.dst (setDst x.o.dst e v) vp:=fun v=>setDst_comm (fun t ht hh=>writes_false hpx t hh (dst_names ht))
   rcases ih with ⟨v0,d1,st1,hx,hrest,eC,dC,hreC,heC⟩ | ⟨v,st1,hx,hrx,hrs,hrd⟩
   ·rcases doOp_congr hag hx with ⟨v,d',st',hq,hx'⟩ | ⟨v,st',hq,_⟩
    ·simp only [Res.mk.injEq,Fr.mk.injEq,true_and] at hq
     obtain ⟨⟨henv,rfl⟩,rfl⟩:=hq
     rw [henv] at hrest heC
     refine .inl ⟨v,d1,st1,hx',?_,eC,dC,hreC,?_⟩
     ·-- p behind x
      have hagp:Agree p.o (setDst x.o.dst e v) e:=Agree.write hxp
      have hdo:doOp g p.o ⟨setDst x.o.dst e v,d1⟩ st1=some ⟨.nrm,⟨setDst p.o.dst (setDst x.o.dst e v) vp,d1⟩,st1⟩:=by
       rcases hvp with ⟨hw,rfl⟩ | ⟨hw,hop⟩
       ·exact doOp_not (by rw [wantedA_congr hagp];exact hw)
       ·have hw':wantedA p.o.guard (setDst x.o.dst e v)=some true:=by rw [wantedA_congr hagp];exact hw
        have same:opA p.o.op e st1=some (.val vp st1)→doOp g p.o ⟨setDst x.o.dst e v,d1⟩ st1=some ⟨.nrm,⟨setDst p.o.dst (setDst x.o.dst e v) vp,d1⟩,st1⟩ :=
         fun h=>doOp_val hw' (by rw [opA_congr hagp.op];exact h)
        rcases hcase with (hxc | hp0) | hcon
        ·obtain ⟨v',hq',_⟩:=doOp_quiet hxc hx'
         simp only [Res.mk.injEq] at hq'
         rw [hq'.2.2] at same ⊢
         exact same hop
        ·obtain ⟨v',h1,h2⟩:=opA_pure hp0 st st1 _ hop
         cases h1
         exact same h2
        ·rcases hre with hre | ⟨hself,hmid⟩
         ·rw [hre] at hcon;cases hcon
         ·-- it was read again
          have hrp:reOk p.o ⟨eC,dC⟩ st1=true:=by
           unfold reAll at hreC
           rw [List.all_eq_true] at hreC
           have:=hreC p.i (by simpa using hcon)
           rw [hP.uniq p (by simp)] at this
           exact this
          rw [List.all_eq_true] at hmid
          have hnw:∀z∈pre++[x],∀t,z.o.dst=some t→t ∉ p.o.names:=fun z hz=>writes_false (by simpa using hmid z hz)
          have hnames:∀t∈p.o.names,eC[t]?=(setDst p.o.dst e vp)[t]?:=by
           intro t ht
           rw [heC t (fun z hz hh=>hnw z (by simp [hz]) t hh ht)]
           exact setDst_get (fun hh=>hnw x (by simp) t hh ht)
          have hagC:Agree p.o eC e:=by
           refine Agree.of fun t ht=>?_
           have htn:t∈p.o.names:=by
            unfold AOper.names
            rcases ht with ht | ⟨w,hw⟩
            ·simp [ht]
            ·simp [hw]
           rw [hnames t htn]
           refine setDst_get (fun hh=>?_)
           unfold AOper.selfOk at hself
           rw [hh] at hself
           simp only [Bool.and_eq_true,Bool.not_eq_true'] at hself
           rcases ht with ht | ⟨w,hw⟩
           ·have hne:p.o.op.xs≠[]:=by rintro h0;rw [h0] at ht;simp [xTmps] at ht
            have:=hself.1
            simp [hne,ht] at this
           ·have:=hself.2
            rw [hw] at this
            simp at this
          unfold reOk at hrp
          rw [wantedA_congr hagC,hw] at hrp
          simp only [opA_congr (st:=st1) hagC.op] at hrp
          cases hop1:opA p.o.op e st1 with
          | none=>simp [hop1] at hrp
          | some nx =>
           obtain ⟨v2,rfl⟩:=opA_read hpc hop1
           cases hdst:p.o.dst with
           | none=>simp [hop1,hdst] at hrp
           | some dd =>
            simp only [hop1,hdst] at hrp
            have hv2:=beq_eq _ _ hrp
            have hdd:=hnames dd (dst_names hdst)
            rw [hdst] at hdd
            simp only [setDst] at hdd
            have:=doOp_val (g:=g) (d:=d1) hw' (st:=st1) (by rw [opA_congr hagp.op];exact hop1)
            rw [this,hdst]
            show some (⟨.nrm,⟨(setDst x.o.dst e v).set dd v2,d1⟩,st1⟩:Res)=some ⟨.nrm,⟨(setDst x.o.dst e v).set dd vp,d1⟩,st1⟩
            by_cases hlt:dd<e.length
            ·rw [List.getElem?_set_self hlt] at hdd
             rw [List.getD_eq_getElem?_getD,hdd] at hv2
             simp only [Option.getD_some] at hv2
             rw [hv2]
            ·have hl:(setDst x.o.dst e v).length≤dd:=by
              have:(setDst x.o.dst e v).length=e.length:=by
               cases x.o.dst with
               | none=>rfl
               | some t=>simp [setDst]
              omega
             rw [List.set_eq_of_length_le hl,List.set_eq_of_length_le hl]
      simp only [List.cons_append,doSteps,hdo,hpre,reAll,List.all_nil,if_true]
      rw [←hcomm v];exact hrest
     ·intro t ht
      rw [heC t (fun z hz=>ht z (List.mem_cons_of_mem _ hz)),hcomm v]
      exact setDst_get (ht p (List.mem_cons_self ..))
    ·cases hq
   ·rcases doOp_congr hag hx with ⟨v',d',st',hq,hx'⟩ | ⟨v',st',hq,hx'⟩
    ·cases hq
    ·simp only [Res.mk.injEq,AEx.pan.injEq] at hq
     obtain ⟨rfl,_,rfl⟩:=hq
     exact .inr ⟨v,st1,hx',hrx,hrs,hrd⟩
end
section
variable {P:Program} {gl:List (Nat×AV)} {g:Task→St→Option Res} {all:List AStep}
theorem path_done {ops:Array Oper} {D:List Nat} (hD:∀i∈D,∀k,EdgeTo ops k i→k∈D):∀{k i:Nat},Path ops k i→(∀k,EdgeTo ops k i→k∈D)→k∈D:=by
 intro k i hp
 induction hp with
 | one h=>intro hi;exact hi _ h
 | more h _ ih=>intro hi;exact ih (hD _ (hi _ h))
theorem find_uniq:∀{l:List AStep} {s:AStep},(l.map (·.i)).Nodup→s∈l→(l.find? fun q=>q.i == s.i)=some s
 | x::l,s,hn,hs=>by
  rw [List.map_cons,List.nodup_cons] at hn
  rcases List.mem_cons.1 hs with rfl | hs
  ·simp
  ·have hne:¬x.i=s.i:=fun h=>hn.1 (by rw [h];exact List.mem_map.2 ⟨s,hs,rfl⟩)
   simp only [List.find?_cons,beq_iff_eq]
   have:(x.i == s.i)=false:=by simpa using hne
   rw [this]
   exact find_uniq hn.2 hs
def Ord (bf:Array Nat):List Nat→List AStep→Prop
 | _,[]=>True
 | D,s::ys=>(∀k,(bf.getD s.i 0).testBit k=true→k∈D)∧Ord bf (s.i::D) ys
theorem steps_list {ops:Array Oper} (L:List AStep):∀(is D:List Nat),Ext ops D is→(∀i∈D,∀k,EdgeTo ops k i→k∈D)→(∀i∈is,∃s∈L,s.i=i)→∃ys:List AStep,ys.map (·.i)=is∧(∀y∈ys,y∈L)∧Ord (Region.before ops) D ys
 | [],D,_,_,_=>⟨[],rfl,by simp,trivial⟩
 | i::is,D,hext,hD,h=>by
  obtain ⟨s,hs,rfl⟩:=h i (List.mem_cons_self ..)
  obtain ⟨ys,h1,h2,h3⟩:=steps_list L is (s.i::D) hext.2 (fun j hj k hk=>by
   rcases List.mem_cons.1 hj with rfl | hj
   ·exact List.mem_cons_of_mem _ (hext.1 k hk)
   ·exact List.mem_cons_of_mem _ (hD j hj k hk)) (fun j hj=>h j (List.mem_cons_of_mem _ hj))
  refine ⟨s::ys,by simp [h1],fun y hy=>?_,fun k hk=>path_done hD (before_path ops _ _ hk) hext.1,h3⟩
  rcases List.mem_cons.1 hy with rfl | hy
  ·exact hs
  ·exact h2 y hy
theorem planV_idx {ops:Array Oper} {ss:List AStep} (hV:planV P gl ops (Region.before ops) ss=true) (hfit:∀s∈ss,∃o,ops[s.i]?=some o∧(operFits P gl ops o s.o=true∨vsFits P gl o s.o=true)) (hnd:(ss.map (·.i)).Nodup) :
  ∀(ys D:List AStep) (PD:List (Nat×Nat)),(∀y∈ys,y∈ss)→(∀y∈D,y∈ss)→(ys.map (·.i)).Nodup→(∀y∈ys,y.i ∉ D.map (·.i))→Ord (Region.before ops) (D.map (·.i)) ys →
   (∀p∈PD,∃k∈D,isV k.o=some p)→(∀k∈D,∀p,isV k.o=some p→(∀s∈D,∀q,isVs P gl ops s=some q→q.1≠p.1)→p∈PD)→IdxFit P gl ops PD (ys.map (·.i)) (ys.map (·.o))
 | [],D,PD,_,_,_,_,_,_,_=>rfl
 | s::ys,D,PD,hys,hDs,hn,hdis,hord,I1,I2=>by
  simp only [planV,Bool.and_eq_true,List.all_eq_true] at hV
  obtain ⟨hV1,hV2⟩:=hV
  have hs:=hys s (List.mem_cons_self ..)
  obtain ⟨o,ho,hf⟩:=hfit s hs
  have hn':=List.nodup_cons.1 hn
  have hsD:∀k∈D,k.i≠s.i:=fun k hk e=>hdis s (List.mem_cons_self ..) (List.mem_map.2 ⟨k,hk,e⟩)
  have step:∀PD',(∀p∈PD',∃k∈s::D,isV k.o=some p)→(∀k∈s::D,∀p,isV k.o=some p→(∀s'∈s::D,∀q,isVs P gl ops s'=some q→q.1≠p.1)→p∈PD')→IdxFit P gl ops PD' (ys.map (·.i)) (ys.map (·.o)):=by
   intro PD' J1 J2
   refine planV_idx (by simp only [planV,Bool.and_eq_true,List.all_eq_true];exact ⟨hV1,hV2⟩) hfit hnd ys (s::D) PD' (fun y hy=>hys y (List.mem_cons_of_mem _ hy)) (fun y hy=>?_) hn'.2 (fun y hy hc=>?_) hord.2 J1 J2
   ·rcases List.mem_cons.1 hy with rfl | hy
    ·exact hs
    ·exact hDs y hy
   ·rw [List.map_cons] at hc
    rcases List.mem_cons.1 hc with hc | hc
    ·exact hn'.1 (List.mem_map.2 ⟨y,hy,hc⟩)
    ·exact hdis y (List.mem_cons_of_mem _ hy) hc
  rw [List.map_cons,List.map_cons]
  by_cases hof:operFits P gl ops o s.o=true
  ·refine ⟨s.o,ys.map (·.o),o,rfl,ho,.inl ⟨hof,fun p hp hd=>?_,step _ (fun p hp=>?_) (fun k hk p hkp hno=>?_)⟩⟩
   ·obtain ⟨k,hk,hkp⟩:=I1 p hp
    have:=hV2 k (hDs k hk)
    rw [hkp] at this
    simp only [List.all_eq_true] at this
    have:=this s hs
    simp only [ho,Bool.or_eq_true,beq_iff_eq,bne_iff_ne] at this
    rcases this with h | h
    ·exact hsD k hk h.symm
    ·exact h hd
   ·rcases List.mem_append.1 hp with hp | hp
    ·exact ⟨s,List.mem_cons_self ..,by simpa using hp⟩
    ·obtain ⟨k,hk,h⟩:=I1 p hp;exact ⟨k,List.mem_cons_of_mem _ hk,h⟩
   ·rcases List.mem_cons.1 hk with rfl | hk
    ·exact List.mem_append_left _ (by simp [hkp])
    ·exact List.mem_append_right _ (I2 k hk p hkp fun s' hs' q hq=>hno s' (List.mem_cons_of_mem _ hs') q hq)
  ·have hvs:=hf.resolve_left hof
   have hvo:∃p,vsOf s.o=some p:=by
    unfold vsFits at hvs
    split at hvs
    ·rename_i d m d2 x heq;exact ⟨(d,m),by rw [heq];rfl⟩
    ·cases hvs
   obtain ⟨p,hp⟩:=hvo
   have his:isVs P gl ops s=some p:=by simp [isVs,ho,hof,hp]
   have h1:=hV1 s hs
   rw [his] at h1
   simp only [Bool.and_eq_true,List.any_eq_true,List.all_eq_true,beq_iff_eq] at h1
   obtain ⟨⟨k,hk,hkp,hbit⟩,huniq⟩:=h1
   obtain ⟨k',hk',he⟩:=List.mem_map.1 (hord.1 k.i hbit)
   have hkk:k'=k:=by
    have e1:=find_uniq hnd (hDs k' hk')
    have e2:=find_uniq hnd hk
    rw [he] at e1
    rw [e1] at e2
    exact Option.some.inj e2
   subst hkk
   have hmem:p∈PD:=I2 k' hk' p hkp fun s' hs' q hq e=>by
    have:=huniq s' (hDs s' hs')
    rw [hq] at this
    simp only [Bool.or_eq_true,bne_iff_ne,beq_iff_eq] at this
    rcases this with h | h
    ·exact h e
    ·exact hsD s' hs' h
   refine ⟨s.o,ys.map (·.o),o,rfl,ho,.inr ⟨hvs,p,hp,hmem,step _ (fun q hq=>?_) (fun k hk q hkq hno=>?_)⟩⟩
   ·obtain ⟨k,hk,h⟩:=I1 q (List.mem_filter.1 hq).1
    exact ⟨k,List.mem_cons_of_mem _ hk,h⟩
   ·have hne:p.1≠q.1:=hno s (List.mem_cons_self ..) p his
    rcases List.mem_cons.1 hk with rfl | hk
    ·exfalso
     unfold vsOf at hp
     split at hp
     ·rename_i heq;rw [heq] at hkq;simp [isV] at hkq
     ·cases hp
    ·exact List.mem_filter.2 ⟨I2 k hk q hkq fun s' hs' q' hq'=>hno s' (List.mem_cons_of_mem _ hs') q' hq',by simpa using fun e=>hne e.symm⟩
theorem plan_run {ops:Array Oper}:∀(is:List Nat) (D:List Nat) (L:List AStep) (e:Env) (d:List ADef) (st:St) (r:Res),Ext ops D is→is.Nodup→(∀i,i∈is↔∃s∈L,s.i=i)→(L.map (·.i)).Nodup →
  (∀i∈D,∀k,EdgeTo ops k i→k∈D)→(∀s∈L,s.i ∉ D)→PlanG (Region.before ops) all L→doSteps g all L ⟨e,d⟩ st=some r →
  ∃(ys:List AStep) (r':Res),ys.map (·.i)=is∧(∀y∈ys,y∈L)∧Ord (Region.before ops) D ys∧doOps g (ys.map (·.o)) ⟨e,d⟩ st=some r'∧r'.x=r.x∧r'.st=r.st∧r'.fr.defs=r.fr.defs∧((∃v,r.x=.pan v)∨r'.fr=r.fr)
 | [],D,L,e,d,st,r,_,_,hm,_,_,_,_,h=>by
  cases L with
  | cons s L=>exact absurd ((hm s.i).2 ⟨s,by simp,rfl⟩) (by simp)
  | nil =>
   simp only [doSteps,Option.some.injEq] at h;subst h
   exact ⟨[],_,rfl,by simp,trivial,rfl,rfl,rfl,rfl,.inr rfl⟩
 | i::is,D,L,e,d,st,r,hext,hnd,hm,hLn,hD,hdis,hP,h=>by
  obtain ⟨s,hs,rfl⟩:=(hm i).1 (List.mem_cons_self ..)
  obtain ⟨pre,post,rfl⟩:=List.append_of_mem hs
  have hbef:∀k,((Region.before ops).getD s.i 0).testBit k=true→k∈D:=fun k hk=>path_done hD (before_path ops _ _ hk) hext.1
  have hnb:∀p∈pre,((Region.before ops).getD s.i 0).testBit p.i=false:=by
   intro p hp
   cases hb:((Region.before ops).getD s.i 0).testBit p.i with
   | false=>rfl
   | true=>exact absurd (path_done hD (before_path ops _ _ hb) hext.1) (hdis p (by simp [hp]))
  have hnd':=List.nodup_cons.1 hnd
  have hne:∀x,x∈pre++post→x.i≠s.i:=by
   intro x hx heq
   rw [List.map_append,List.map_cons,List.nodup_append] at hLn
   obtain ⟨_,h2,h3⟩:=hLn
   rcases List.mem_append.1 hx with hx | hx
   ·exact h3 x.i (List.mem_map.2 ⟨x,hx,rfl⟩) s.i (by simp) heq
   ·exact (List.nodup_cons.1 h2).1 (by rw [←heq];exact List.mem_map.2 ⟨x,hx,rfl⟩)
  rcases move pre s post e d st r hP hnb h with ⟨v,d1,st1,hx,hrest,_⟩ | ⟨v,st1,hx,hrx,hrs,hrd⟩
  ·have ih:=plan_run is (s.i::D) (pre++post) (setDst s.o.dst e v) d1 st1 r hext.2 hnd'.2 (fun j=>by
     constructor
     ·intro hj
      obtain ⟨x,hx,rfl⟩:=(hm j).1 (List.mem_cons_of_mem _ hj)
      refine ⟨x,?_,rfl⟩
      have hxs:x≠s:=by rintro rfl;exact hnd'.1 hj
      simp at hx ⊢
      rcases hx with hx | hx | hx
      ·exact .inl hx
      ·exact absurd hx hxs
      ·exact .inr hx
     ·rintro ⟨x,hx,rfl⟩
      have:=(hm x.i).2 ⟨x,by simp at hx ⊢;rcases hx with hx | hx<;>simp [hx],rfl⟩
      rcases List.mem_cons.1 this with h | h
      ·exact absurd h (hne x hx)
      ·exact h)
    (by
     have:=hLn
     rw [List.map_append,List.map_cons] at this
     rw [List.map_append]
     exact this.sublist (List.Sublist.append_left (List.sublist_cons_self _ _) _))
    (fun j hj k hk=>by
     rcases List.mem_cons.1 hj with rfl | hj
     ·exact List.mem_cons_of_mem _ (hext.1 k hk)
     ·exact List.mem_cons_of_mem _ (hD j hj k hk))
    (fun x hx hc=>by
     rcases List.mem_cons.1 hc with h | h
     ·exact hne x hx h
     ·exact hdis x (by simp at hx ⊢;rcases hx with hx | hx<;>simp [hx]) h)
    hP.remove hrest
   obtain ⟨ys,r',hi,hmem,hord,hd,hrr⟩:=ih
   refine ⟨s::ys,r',by simp [hi],fun y hy=>?_,⟨hbef,hord⟩,?_,hrr⟩
   ·rcases List.mem_cons.1 hy with rfl | hy
    ·simp
    ·have:=hmem y hy;simp at this ⊢;rcases this with h | h<;>simp [h]
   ·simp only [List.map_cons,doOps,hx]
    exact hd
  ·obtain ⟨ys,hi,hmem,hord⟩:=steps_list (ops:=ops) (pre++s::post) is (s.i::D) hext.2 (fun j hj k hk=>by
     rcases List.mem_cons.1 hj with rfl | hj
     ·exact List.mem_cons_of_mem _ (hext.1 k hk)
     ·exact List.mem_cons_of_mem _ (hD j hj k hk)) (fun j hj=>(hm j).1 (List.mem_cons_of_mem _ hj))
   refine ⟨s::ys,⟨.pan v,⟨e,d⟩,st1⟩,by simp [hi],fun y hy=>?_,⟨hbef,hord⟩,?_,hrx.symm,hrs.symm,hrd.symm,.inl ⟨v,hrx⟩⟩
   ·rcases List.mem_cons.1 hy with rfl | hy
    ·simp
    ·exact hmem y hy
   ·simp only [List.map_cons,doOps,hx]
theorem nodup_of_cover:∀(n:Nat) (l:List Nat),l.length=n→(∀i,i<n→i∈l)→l.Nodup∧∀i∈l,i<n:=by
 intro n
 induction n with
 | zero=>intro l hl _;cases l with
  | nil=>exact ⟨List.nodup_nil,fun i h=>by cases h⟩
  | cons a l=>cases hl
 | succ n ih =>
  intro l hl hc
  have hm:=hc n (Nat.lt_succ_self n)
  have hlen:(l.erase n).length=n:=by rw [List.length_erase_of_mem hm];omega
  obtain ⟨h1,h2⟩:=ih (l.erase n) hlen (fun i hi=>(List.mem_erase_of_ne (by omega)).2 (hc i (by omega)))
  have hp:=List.perm_cons_erase hm
  have hnn:n ∉ l.erase n:=fun h=>absurd (h2 n h) (Nat.lt_irrefl n)
  refine ⟨hp.nodup_iff.2 (List.nodup_cons.2 ⟨hnn,h1⟩),fun i hi=>?_⟩
  rcases List.mem_cons.1 (hp.mem_iff.1 hi) with rfl | h
  ·exact Nat.lt_succ_self _
  ·exact Nat.lt_succ_of_lt (h2 i h)
theorem planFits_ok {ops:Array Oper} {ss:List AStep} (h:planFits P gl ops ss=true):PlanOk P gl ops ss:=by
 intro g fr st r t hd
 simp only [planFits,Bool.and_eq_true,beq_iff_eq] at h
 obtain ⟨⟨⟨⟨⟨⟨hlen,hcov⟩,hfit⟩,hV⟩,hac⟩,hre⟩,hpair⟩:=h
 rw [List.all_eq_true] at hcov hfit hre
 have hcov':∀i,i<ops.size→i∈ss.map (·.i):=by
  intro i hi
  have:=hcov i (List.mem_range.2 hi)
  rw [List.any_eq_true] at this
  obtain ⟨s,hs,he⟩:=this
  exact List.mem_map.2 ⟨s,hs,by simpa using he⟩
 obtain ⟨hnd,hlt⟩:=nodup_of_cover ops.size (ss.map (·.i)) (by simpa using hlen) hcov'
 have hac':∀i o,ops[i]?=some o→∀e∈o.after,Region.binds .any e=true→e.on<i:=by
  intro i o ho e he hb
  rw [List.all_eq_true] at hac
  have:=hac (o,i) (by
   rw [List.mem_zipIdx_iff_getElem?]
   simpa using ho)
  simp only [] at this
  rw [Array.all_eq_true'] at this
  have:=this e he
  simpa [hb] using this
 obtain ⟨h1,h2,h3⟩:=linearise_ext hac' t
 have hsch:Region.schedule true ops t=Region.linearise .any ops t:=by simp [Region.schedule]
 rw [hsch]
 obtain ⟨e,d⟩:=fr
 have hfit':∀s∈ss,∃o,ops[s.i]?=some o∧(operFits P gl ops o s.o=true∨vsFits P gl o s.o=true):=fun s hs=>by
  have:=hfit s hs
  split at this
  ·rename_i o ho;exact ⟨o,ho,by simpa using this⟩
  ·cases this
 have hmm:∀i,i∈Region.linearise .any ops t↔∃s∈ss,s.i=i:=fun i=>by
  rw [h2]
  constructor
  ·intro hi
   obtain ⟨s,hs,he⟩:=List.mem_map.1 (hcov' i hi)
   exact ⟨s,hs,he⟩
  ·rintro ⟨s,hs,rfl⟩
   exact hlt _ (List.mem_map.2 ⟨s,hs,rfl⟩)
 have hG:PlanG (Region.before ops) ss ss:=⟨PG.of hpair,fun s hs=>by
  have:=hre s hs
  simp only [Bool.or_eq_true,beq_iff_eq,List.isEmpty_iff] at this
  exact this,fun s hs=>find_uniq hnd hs⟩
 obtain ⟨ys,r',hi,hmem,hord,hdo,hx,hrs,hdf,hfr⟩:=plan_run (g:=g) (all:=ss) _ [] ss e d st r h3 h1 hmm hnd (fun i hi=>by cases hi) (fun s _ hs=>by cases hs) hG hd
 exact ⟨ys.map (·.o),r',by rw [←hi];exact planV_idx hV hfit' hnd ys [] [] hmem (by simp) (by rw [hi];exact h1) (by simp) hord (by simp) (by simp),hdo,hx,hrs,hdf,hfr⟩
end
end Go.Proofs.YtgkhmmlemgikjaaGreatDoor.Ai
