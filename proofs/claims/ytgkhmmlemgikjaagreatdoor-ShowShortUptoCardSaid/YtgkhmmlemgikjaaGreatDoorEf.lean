/- Part Ef. No condition. -/
import Derived.Test.YtgkhmmlemgikjaaGreatDoorEa
import Derived.RangeFuncLeaves
set_option linter.unusedVariables false
set_option linter.unusedSimpArgs false
namespace Go.Proofs.YtgkhmmlemgikjaaGreatDoor.Ai
open Go
/-! ### Elements in rows -/
def Chunks (J:Inj) (m:Nat):List AV→List Value→Prop
 | [],xs=>xs=[]
 | e::es,xs=>∃y ys,xs=y.cells.toList++ys∧Rep J e y∧e.isVar=true∧y.cells.size=m∧Chunks J m es ys
section
variable {J:Inj} {m:Nat}
theorem Chunks.mono {J':Inj} (h:J.le J'):∀{es:List AV} {xs:List Value},Chunks J m es xs→Chunks J' m es xs
 | [],_,e=>e
 | _::_,_,⟨y,ys,e,h1,h2,h3,h4⟩=>⟨y,ys,e,Rep.mono h _ _ h1,h2,h3,Chunks.mono h h4⟩
theorem Chunks.length:∀{es:List AV} {xs:List Value},Chunks J m es xs→xs.length=es.length * m
 | [],_,e=>by simp only [Chunks] at e;simp [e]
 | _::es,_,⟨y,ys,e,_,_,h3,h4⟩=>by
  subst e
  have:=Chunks.length h4
  simp [this,h3,Nat.add_mul];omega
theorem Chunks.append:∀{es es':List AV} {xs xs':List Value},Chunks J m es xs→Chunks J m es' xs'→Chunks J m (es++es') (xs++xs')
 | [],_,_,_,h,h'=>by simp only [Chunks] at h;subst h;simpa using h'
 | _::es,_,_,_,⟨y,ys,e,h1,h2,h3,h4⟩,h'=>by
  subst e
  exact ⟨y,ys++_,by simp,h1,h2,h3,h4.append h'⟩
theorem Chunks.take:∀{es:List AV} {xs:List Value} (n:Nat),Chunks J m es xs→Chunks J m (es.take n) (xs.take (n * m))
 | [],_,n,h=>by simp only [Chunks] at h;subst h;simp [Chunks]
 | _::es,_,0,_=>by simp [Chunks]
 | _::es,_,n+1,⟨y,ys,e,h1,h2,h3,h4⟩=>by
  subst e
  refine ⟨y,ys.take (n * m),?_,h1,h2,h3,h4.take n⟩
  rw [show (n+1) * m=y.cells.toList.length+n * m by simp [h3,Nat.add_mul];omega,List.take_length_add_append]
theorem Chunks.reps:∀{es:List AV} {xs:List Value},Chunks J m es xs→Reps J (flat es) xs
 | [],_,h=>by simp only [Chunks] at h;subst h;simp [flat,Reps]
 | _::es,_,⟨y,ys,e,h1,h2,h3,h4⟩=>by
  subst e
  simp only [flat]
  exact h1.cells.append h4.reps
theorem Chunks.isCell:∀{es:List AV} {xs:List Value},Chunks J m es xs→(flat es).all AV.isCell=true
 | [],_,_=>rfl
 | e::es,_,⟨y,ys,_,h1,h2,h3,h4⟩=>by
  simp only [flat,List.all_append,Bool.and_eq_true]
  refine ⟨?_,h4.isCell⟩
  cases e<;>simp [AV.isVar] at h2<;>simp [AV.cells,AV.isCell]
  simp only [Rep] at h1;obtain ⟨_,_,_,hc⟩:=h1
  simpa [AV.isCell] using hc
theorem Elems.of_chunks:∀{es:List AV} {xs:List Value} {b o:Nat},Chunks J m es xs→Row J b o xs→Elems J m es b o
 | [],_,_,_,_,_=>by simp [Elems]
 | _::es,_,b,o,⟨y,ys,e,h1,h2,h3,h4⟩,hr=>by
  subst e
  simp only [Elems]
  refine ⟨⟨y,h1,h2,h3,fun i v hv=>?_⟩,Elems.of_chunks h4 (fun i v hv=>?_)⟩
  ·refine hr i v ?_
   rw [List.getElem?_append_left (List.getElem?_eq_some_iff.1 hv).1];exact hv
  ·have:=hr (m+i) v (by rw [List.getElem?_append_right (by simp [h3])];simpa [h3] using hv)
   rw [Nat.add_assoc];exact this
theorem Elems.chunks:∀{es:List AV} {b o:Nat},Elems J m es b o→∃xs,Chunks J m es xs∧Row J b o xs
 | [],b,o,_=>⟨[],rfl,fun i v hv=>by simp at hv⟩
 | e::es,b,o,h=>by
  simp only [Elems] at h
  obtain ⟨⟨y,h1,h2,h3,h4⟩,h5⟩:=h
  obtain ⟨xs,hx,hr⟩:=h5.chunks
  refine ⟨y.cells.toList++xs,⟨y,xs,rfl,h1,h2,h3,hx⟩,fun i v hv=>?_⟩
  by_cases hi:i<y.cells.toList.length
  ·rw [List.getElem?_append_left hi] at hv;exact h4 i v hv
  ·rw [List.getElem?_append_right (by omega)] at hv
   have:=hr _ v hv
   simp only [Array.length_toList,h3] at hi this
   rw [show o+i=o+m+(i-m) by omega];exact this
theorem Chunks.of_group {agg:Bool} (hagg:agg=false→m=1):∀(n:Nat) {cs:List AV} {xs:List Value},Reps J cs xs→cs.all AV.isCell=true→n * m≤cs.length →
  Chunks J m (group m agg n cs) (xs.take (n * m))
 | 0,_,_,_,_,_=>by simp [group,Chunks]
 | n+1,cs,xs,hr,hc,hl=>by
  have hlen:=hr.length
  have hmul:(n+1) * m=m+n * m:=by rw [Nat.add_mul,Nat.one_mul];omega
  have hrest:=Chunks.of_group hagg n (hr.drop m) (cs:=cs.drop m) (by rw [List.all_eq_true] at hc ⊢;exact fun z hz=>hc z (List.mem_of_mem_drop hz)) (by simp;omega)
  simp only [group,Chunks]
  cases agg with
  | true =>
   refine ⟨.agg (xs.take m).toArray,_,?_,?_,rfl,by simp [Value.cells];omega,hrest⟩
   ·rw [hmul,List.take_add];simp [Value.cells]
   ·simp only [if_true,Rep]
    exact ⟨_,rfl,by simpa using hr.take m,by rw [List.all_eq_true] at hc ⊢;exact fun z hz=>hc z (List.mem_of_mem_take hz)⟩
  | false =>
   have h1:=hagg rfl
   subst h1
   cases cs with
   | nil=>simp at hl
   | cons u cs =>
    simp only [Reps] at hr
    obtain ⟨y,ys,rfl,hry,_⟩:=hr
    simp only [List.all_cons,Bool.and_eq_true] at hc
    have:=hry.oneCell hc.1
    refine ⟨y,_,?_,by simpa using hry,by cases u<;>simp_all [AV.isCell,AV.isVar],by simp [this.2],hrest⟩
    rw [this.2,hmul,List.take_add];simp
theorem Chunks.bytes (s:List UInt8):Chunks J 1 (s.map byteV) (s.map fun b=>Value.int .u8 b.toNat):=by
 induction s with
 | nil=>simp [Chunks]
 | cons b s ih=>exact ⟨.int .u8 b.toNat,_,rfl,by simp [Rep,byteV],rfl,rfl,ih⟩
end
section
variable {P:Program} {gl:List (Nat×AV)} {K:Sites} {base:Bs} {J:Inj} {st st':St} {w:World} {a:Act} {e:Env} {o:Oper} {v:AV}
theorem run_cellsOf {b off:Nat} {xs:List Value} (h:∀(j:Nat) v,xs[j]?=some v→w.cell? ⟨b,off+j,none⟩=some v) (n:Nat) (hn:n≤xs.length) :
  (loadCells ⟨b,off,none⟩ n).run P w=.ok (xs.take n).toArray w:=by
 have:=run_loadCells P w ⟨b,off,none⟩ (xs.take n) (fun j v e=>by
  rw [add_none rfl]
  rw [List.getElem?_take] at e;split at e
  ·exact h j v e
  ·cases e)
 rwa [List.length_take,Nat.min_eq_left hn] at this
theorem r_elems {m:Nat} {u:AV} {x:Value} {ys:List AV} (hm:1≤m) (hS:Sim K base J st w) (hr:Rep J u x) (h:elemsOf st m u=some ys) :
  ∃xs,Chunks J m ys xs∧∀w',w'.heap=w.heap→(Builtin.lenOf x).run P w'=.ok ys.length w'∧∀n,n≤ys.length→(Builtin.firstCells m n x).run P w'=.ok (xs.take (n * m)).toArray w':=by
 cases u<;>simp only [elemsOf] at h<;>try (cases h;done)
 ·rename_i s
  split at h
  ·rename_i h1;subst h1
   cases h
   simp only [Rep] at hr
   obtain ⟨ba,rfl,rfl⟩:=hr
   refine ⟨_,Chunks.bytes _,fun w' _=>⟨by simp [Builtin.lenOf],fun n hn=>?_⟩⟩
   simp only [Builtin.firstCells]
   simp only [Sem.run_pure]
   congr 1
   apply Array.toList_inj.1
   simp [ByteArray.data_extract]
  ·cases h
 ·rename_i m' es ap
  split at h
  ·rename_i hmm
   cases h
   simp only [Rep] at hr
   obtain ⟨_,⟨rfl,rfl⟩ | ⟨ad,cap,rfl,hsp,hcap,_,hel⟩⟩:=hr
   ·exact ⟨[],rfl,fun w' _=>⟨by simp [Builtin.lenOf],fun n hn=>by simp [Builtin.firstCells]⟩⟩
   ·rcases hmm with rfl | rfl
    ·obtain ⟨xs,hc,hrow⟩:=hel.chunks
     have hl:=hc.length
     refine ⟨xs,hc,fun w' hw=>⟨by simp [Builtin.lenOf],fun n hn=>?_⟩⟩
     simp only [Builtin.firstCells]
     rcases Nat.eq_zero_or_pos cap with h0 | h0
     ·have:n=0:=by omega
      subst this
      simp [loadCells,loadCellsFrom]
     have hsp:=hsp h0
     have had:ad=⟨ad.block,ad.off,none⟩:=by cases ad;simp at hsp ⊢;exact hsp
     rw [had]
     exact run_cellsOf (fun j v e=>by rw [cell_congr (w:=w) (by rw [hw])];exact hS.imOk _ _ _ (hrow j v e)) _ (by rw [hl];exact Nat.mul_le_mul_right _ hn)
    ·refine ⟨[],rfl,fun w' _=>⟨by simp [Builtin.lenOf],fun n hn=>?_⟩⟩
     have:n=0:=by simpa using hn
     subst this
     simp [Builtin.firstCells,loadCells,loadCellsFrom]
  ·cases h
 ·rename_i r m' off n cap
  cases hst:st[r]? with
  | none=>simp [hst] at h
  | some ob =>
   cases ob<;>simp only [hst] at h<;>try (cases h;done)
   rename_i cs
   split at h
   ·rename_i hh
    obtain ⟨rfl,hle⟩:=hh
    cases h
    simp only [Rep] at hr
    obtain ⟨b,c,hb,rfl,hnc,_⟩:=hr
    obtain ⟨b',cc,tt,h1,⟨fr,h2,hfr⟩,h3,h4,h5,hty⟩:=hS.obj r _ hst
    rw [hb] at h1;cases h1
    have hlen:(group m' (m' != 1) n (cs.drop off)).length=n:=by
     have:∀k (l:List AV),(group m' (m' != 1) k l).length=k:=by
      intro k;induction k with
      | zero=>intro l;rfl
      | succ k ih=>intro l;simp [group,ih]
     exact this _ _
    have hagg:(m' != 1)=false→m'=1:=by simp
    have hck:=Chunks.of_group hagg n (h4.drop off) (by rw [List.all_eq_true] at h5 ⊢;exact fun z hz=>h5 z (List.mem_of_mem_drop hz)) (by simp;omega)
    refine ⟨_,hck,fun w' hw=>⟨by simp [Builtin.lenOf,hlen],fun k hk=>?_⟩⟩
    rw [hlen] at hk
    simp only [Builtin.firstCells]
    have hkm:k * m'≤n * m':=Nat.mul_le_mul_right _ hk
    refine run_cellsOf (fun j v e=>?_) _ (by simp;omega)
    rw [cell_congr (w:=w) (by rw [hw]),cell_of_heap h2]
    rw [List.getElem?_take] at e
    split at e
    ·rw [List.getElem?_drop,List.getElem?_take] at e
     split at e
     ·simpa using e
     ·cases e
    ·cases e
   ·cases h
theorem putV_get:∀(xs:List Value) (c:Array Value) (o k:Nat),o+xs.length≤c.size→(putV c o xs)[k]?=if o≤k∧k<o+xs.length then xs[k-o]? else c[k]?
 | [],c,o,k,h=>by simp only [putV];rw [if_neg (by simp only [List.length_nil];omega)]
 | x::xs,c,o,k,h=>by
  simp only [List.length_cons] at h
  rw [putV,putV_get xs _ (o+1) k (by simp;omega)]
  by_cases h1:o+1≤k∧k<o+1+xs.length
  ·rw [if_pos h1,if_pos (by simp;omega),show k-o=(k-(o+1))+1 by omega];simp
  ·rw [if_neg h1]
   by_cases h2:k=o
   ·subst h2
    rw [if_pos (by simp only [List.length_cons];omega),Array.getElem?_setIfInBounds_self_of_lt (by omega)]
    simp
   ·rw [if_neg (by simp;omega),Array.getElem?_setIfInBounds_ne (by omega)]
theorem cap_bound {need cap by_:Nat} (h:cap<need) (hg:need≤great) (hb:by_≤256):¬(Builtin.nextslicecap need cap * by_ > 2 ^ 48):=by
 have grow:∀r c,c<need→Builtin.growBy need r c≤2 * need+192:=by
  intro r
  induction r with
  | zero=>intro c hc;simp [Builtin.growBy];omega
  | succ r ih =>
   intro c hc
   simp only [Builtin.growBy]
   split
   ·omega
   ·by_cases hcc:c+(c+768) / 4<need
    ·exact ih _ hcc
    ·have:∀r,Builtin.growBy need r (c+(c+768) / 4)=c+(c+768) / 4:=by
      intro r;cases r with
      | zero=>rfl
      | succ r=>simp only [Builtin.growBy];rw [if_pos (by omega)]
     rw [this];omega
 have:Builtin.nextslicecap need cap≤2 * need+512:=by
  unfold Builtin.nextslicecap
  split
  ·omega
  ·split
   ·omega
   ·have:=grow 4 cap h;omega
 have h2:Builtin.nextslicecap need cap * by_≤(2 * need+512) * 256:=Nat.mul_le_mul this hb
 unfold great at hg
 omega
variable (hS:Sim K base J st w) (hE:Reps J e a.tmps.toList) (hG:GlOk gl J)
include hS hE hG
omit hE hG in
theorem r_appendNew {id m need:Nat} {ty:Option TypeId} {ys:List AV} {xs:List Value} {cap':Nat} {t:TypeId} {rest:List Value} {w1:World} {ob:AObj} (hst:st[id]?=some ob)
  (hty:∀T,ty=some T→t=T) (hob:(ob=.dead∧∀k v,J.τ id k≠some v)∨(∃m' n0 ty0,ob=.tok m' n0 ty0∧n0<need))
  (hw1:w1.heap=w.heap) (ho1:w1.os=w.os) (hp1:w1.output=w.output) (hck:Chunks J m ys xs) (hneed:ys.length=need) (hn0:0<cap') (hcap:need≤cap')
  (hrest:rest.length=(cap'-need) * m) :
  let c:=(xs++rest).toArray
  let J':=J.grow id need (.slice (some ⟨w.heap.size,0,none⟩) need cap') w.heap.size 0 (0+need * m) c
  J.le J'∧Sim K base J' (st.set id (.tok m need ty)) { w1 with heap:=w1.heap.push (.cells c t (0,0)) }∧Rep J' (.lst m ys (.tok id)) (.slice (some ⟨w.heap.size,0,none⟩) need cap'):=by
 intro c J'
 have hl:=hck.length
 have hs:(w1.heap.push (.cells c t (0,0))).size=w.heap.size+1:=by rw [Array.size_push,hw1]
 have hτ:∀k v,J.τ id k=some v→k<need∨(k=need∧v=.slice (some ⟨w.heap.size,0,none⟩) need cap'):=by
  intro k v e
  rcases hob with ⟨_,hn⟩ | ⟨m',n0,ty0,rfl,hlt⟩
  ·exact absurd e (hn k v)
  ·have:=(hS.τlt id k v e).2 m' n0 ty0 hst
   exact .inl (by omega)
 obtain ⟨hle,hsim⟩:=hS.tokSet (id:=id) (n:=need) (m:=m) (ty:=ty) hst (by
   rcases hob with h | ⟨m',n0,ty0,h,_⟩
   ·exact .inl h
   ·exact .inr ⟨m',n0,ty0,h⟩)
  (w':={ w1 with heap:=w1.heap.push (.cells c t (0,0)) }) (a:=⟨w.heap.size,0,none⟩) (cap:=cap') (c:=c) (t:=t)
  ho1 hp1 (by show _≤(w1.heap.push _).size;rw [hs];omega)
  (fun b' hb' hne=>by show (w1.heap.push _)[b']?=_;rw [push_old _ (by rw [hw1];exact hb'),hw1])
  (by show (w1.heap.push _)[w.heap.size]?=_;rw [←hw1];simp)
  hS.size (fun r' o' e1 e2=>absurd (hS.own r' o' _ e1 e2).2.1 (Nat.lt_irrefl _))
  (fun k v e=>by rw [hS.imnew (Nat.le_refl _)] at e;cases e) rfl hcap hn0
  (by simp only [Nat.zero_add]; show cap' * m ≤ (xs ++ rest).toArray.size
      simp only [List.size_toArray,List.length_append,hl,hrest,hneed]
      rw [←Nat.add_mul];exact Nat.le_of_eq (by congr 1;omega))
  (fun k v _ e=>by rw [hS.imnew (Nat.le_refl _)] at e;cases e) (fun hh=>absurd (hS.hid _ hh).1 (Nat.lt_irrefl _)) hτ (fun T h=>⟨hty T h,rfl⟩)
 refine ⟨hle,hsim,?_⟩
 simp only [Rep]
 refine ⟨fun id' e=>?_,.inr ⟨_,cap',by rw [hneed],fun _=>rfl,by omega,fun e=>(by cases e),?_⟩⟩
 ·cases e;simp [J',Inj.grow,hneed]
 ·refine Elems.of_chunks (hck.mono hle) (fun i v hv=>?_)
  have hi:=(List.getElem?_eq_some_iff.1 hv).1
  rw [hl,hneed] at hi
  show (if w.heap.size=w.heap.size∧0≤0+i∧0+i<0+need * m then c[0+i]? else _)=some v
  rw [if_pos (by omega)]
  show (xs++rest).toArray[0+i]?=some v
  simp only [Nat.zero_add,List.getElem?_toArray]
  rw [List.getElem?_append_left (by rw [hl,hneed];exact hi)];exact hv
omit hE hG in
theorem r_appendIn {id m n cap:Nat} {ty0 ty:Option TypeId} {ad:Addr} {es ys:List AV} {xs:List Value} {c:Array Value} {t:TypeId} (hst:st[id]?=some (.tok m n ty0)) (hty:∀T,ty=some T→t=T∧ad.off=0)
  (hτ:J.τ id n=some (.slice (some ad) n cap)) (hsp:ad.spot=none) (hc0:0<cap) (hh:w.heap[ad.block]?=some (.cells c t (0,0))) (hsz:ad.off+cap * m≤c.size)
  (hbey:∀k v,ad.off+n * m≤k→J.im ad.block k≠some v) (hes:es.length=n) (hel:Elems J m es ad.block ad.off) (hck:Chunks J m ys xs) (hcap:n+ys.length≤cap) :
  ∃J' w',J.le J'∧Sim K base J' (st.set id (.tok m (n+ys.length) ty)) w'∧Rep J' (.lst m (es++ys) (.tok id)) (.slice (some ad) (n+ys.length) cap) ∧
   (storeCells (ad.add (n * m)) xs).run P w=.ok () w':=by
 have hl:=hck.length
 have hmul:(n+ys.length) * m=n * m+ys.length * m:=Nat.add_mul _ _ _
 have hcm:(n+ys.length) * m≤cap * m:=Nat.mul_le_mul_right _ hcap
 obtain ⟨w',g1,g2,g3,g4,g5,g6⟩:=run_storeCells P ⟨ad.block,ad.off+n * m,none⟩ rfl t (0,0) xs w 0 c hh (Clear.zero _) (by simp only [Nat.add_zero];omega) (hck.reps.oneCells hck.isCell)
 have hown:ownB J id (.tok m n ty0)=some ad.block:=by simp [ownB,hτ];omega
 obtain ⟨o1,o2,o3⟩:=hS.own id _ _ hst hown
 simp only [Nat.add_zero] at g6
 have hget:=fun k=>putV_get xs c (ad.off+n * m) k (by omega)
 obtain ⟨hle,hsim⟩:=hS.tokSet (id:=id) (n:=n+ys.length) (m:=m) (ty:=ty) hst (.inr ⟨m,n,ty0,rfl⟩) (w':=w') (a:=ad) (cap:=cap) (t:=t) g2 g3 (by omega)
  (fun b' _ hne=>g5 b' hne) g6 o1 o3
  (fun k v e=>by
   rw [hget]
   have hk:k<ad.off+n * m:=Nat.lt_of_not_le (fun hk=>hbey k v hk e)
   rw [if_neg (by omega)]
   have:=hS.imOk _ _ _ e
   rwa [cell_of_heap hh] at this)
  hsp hcap hc0 (by rw [putV_size];exact hsz) (fun k v hk=>hbey k v (by omega)) (fun hh=>(hS.hid _ hh).2.2.2 id _ hst hown)
  (fun k v e=>by
   have:=(hS.τlt id k v e).2 m n ty0 hst
   by_cases hk:k=n+ys.length
   ·have hn:ys.length=0:=by omega
    have:k=n:=by omega
    subst this
    rw [hτ] at e;cases e
    refine .inr ⟨hk,by rw [hn];rfl⟩
   ·exact .inl (by omega)) hty
 refine ⟨_,w',hle,hsim,?_,by rw [add_none hsp];exact g1⟩
 simp only [Rep]
 have hlen:(es++ys).length=n+ys.length:=by simp [hes]
 refine ⟨fun id' e=>?_,.inr ⟨ad,cap,by rw [hlen],fun _=>hsp,by omega,fun e=>(by cases e),?_⟩⟩
 ·cases e;simp [Inj.grow,hes]
 ·refine (Elems.mono hle _ _ _ _ hel).append (Elems.of_chunks (hck.mono hle) (fun i v hv=>?_))
  have hi:=(List.getElem?_eq_some_iff.1 hv).1
  rw [hl] at hi
  rw [hes]
  simp only [Inj.grow]
  rw [if_pos ⟨trivial,by omega,by omega⟩,hget,if_pos (by omega)]
  rw [show ad.off+n * m+i-(ad.off+n * m)=i by omega];exact hv
end
end Go.Proofs.YtgkhmmlemgikjaaGreatDoor.Ai
namespace Go.Proofs.YtgkhmmlemgikjaaGreatDoor.Ai
open Go
theorem group_length (m:Nat) (agg:Bool):∀(n:Nat) (cs:List AV),(group m agg n cs).length=n
 | 0,_=>rfl
 | n+1,cs=>by simp [group,group_length m agg n]
theorem range_flat (z:Array Value) (m:Nat) (hz:z.size=m) (hm:1≤m):∀n,(Array.range (n * m)).map (fun i=>z[i % z.size]!)=((List.replicate n z.toList).flatten).toArray:=by
 intro n
 apply Array.toList_inj.1
 simp only [Array.toList_map,Array.toList_range]
 induction n with
 | zero=>simp
 | succ n ih =>
  rw [Nat.add_mul,Nat.one_mul,List.range_add,List.map_append,ih,List.replicate_succ',List.flatten_append]
  congr 1
  simp only [List.map_map,List.flatten_cons,List.flatten_nil,List.append_nil]
  apply List.ext_getElem
  ·simp [hz]
  ·intro i h1 h2
   have hi:i<m:=by simpa using h1
   have hlt:i<z.size:=by omega
   simp [hz,Nat.mod_eq_of_lt hi,Nat.add_mod]
   rw [getElem!_pos z i hlt]
theorem r_append_zero {P:Program} {w:World} {t t2 ty el:TypeId} {d2:TypeDesc} (hd:P.underlying t=some (.slice el)) {m:Nat} (hsize:sizeT P el=some m) (hd2:P.underlying t2=some d2)
  (hint:∀k,d2≠.int k) {base:Option Addr} {n cap k:Nat} {u:Value} (hlen:(Builtin.lenOf u).run P w=.ok k w) :
  (Builtin.append_ #[t,t2] ty #[.slice base n cap,u]).run P w =
   if n+k≤cap then ((Builtin.firstCells m k u).run P w).andThen fun new w1=>(match base with | some a=>(storeCells (a.add (n * m)) new.toList).run P w1 | none=>.ok () w1).andThen fun _ w2=>.ok (.slice base (n+k) cap) w2
   else (do
  if ((n + k : Nat) : Int) > IntKind.i64.max ∧ (← typeInfo el).bytes = 0 then runtimePanic (.error "growslice: len out of range")
  if Builtin.nextslicecap (n+k) cap * (←typeInfo el).bytes > 2 ^ 48 then (do
   if !(←Builtin.mayShare m n k base u) then mark .noRoom
   unsupported (.resourceLimit "append: a slice or a string whose bytes no memory bears"))
  let newCap ←choose (.appendCap (n+k) cap el)
  askRoom (newCap * (←typeInfo el).bytes)
  let old ←Builtin.firstCells m n (.slice base n cap)
  let new ←Builtin.firstCells m k u
  let rest:=Builtin.zeroCells (←zeroValue el).cells (newCap-(n+k))
  pure (.slice (some (←newRow el (old++new++rest))) (n+k) newCap):Sem Value).run P w:=by
 unfold Builtin.append_
 simp only [List.getElem?_toArray,List.getElem?_cons_zero,List.getElem?_cons_succ]
 rw [Sem.run_bind,r_under hd]
 simp only [Result.andThen_ok]
 rw [Sem.run_bind,r_size hsize]
 simp only [Result.andThen_ok]
 rw [Sem.run_bind,r_under hd2]
 simp only [Result.andThen_ok]
 rw [Sem.run_bind]
 rw [show (Sem.run P (pure false:Sem Bool) w)=Result.ok false w from rfl]
 simp only [Result.andThen_ok,Bool.false_eq_true,if_false,Bool.not_false,if_true,false_or]
 rw [Sem.run_bind,hlen]
 simp only [Result.andThen_ok]
 by_cases hle:n+k≤cap
 ·simp only [hle,if_true]
  rw [Sem.run_bind]
  congr 1
  funext new w1
  cases base with
  | none=>simp
  | some a=>simp
 ·simp only [hle,if_false]
theorem elemFits_iff {P:Program} {t:TypeId} {m:Nat} (h:elemFits P t m=true):∃el,P.underlying t=some (.slice el)∧sizeT P el=some m∧1≤m∧isAggT P el=some (m != 1):=by
 unfold elemFits at h
 split at h
 ·rename_i el hd
  simp only [Bool.and_eq_true,decide_eq_true_eq] at h
  obtain ⟨h1,h2,_⟩:=varFits_iff h.1
  exact ⟨el,hd,h1,h.2,h2⟩
 ·cases h
section
variable {P:Program} {gl:List (Nat×AV)} {K:Sites} {base:Bs} {J:Inj} {st st':St} {w:World} {a:Act} {e:Env} {o:Oper} {v:AV}
variable (hS:Sim K base J st w) (hE:Reps J e a.tmps.toList) (hG:GlOk gl J)
include hS hE hG
theorem did_append {m bytes:Nat} {ty:Option TypeId} {y z:AX} (hf:opFits P gl o.op (.append m bytes ty y z)=true) (h:opA (.append m bytes ty y z) e st=some (.val v st')):Did P K base J (execOp a.eval o) w v st':=by
 simp only [opFits] at hf
 split at hf
 ·rename_i x u t t2 ho
  simp only [Bool.and_eq_true,beq_iff_eq] at hf
  obtain ⟨⟨⟨⟨⟨⟨htyf,hel⟩,hzo⟩,hby⟩,hint⟩,hx⟩,hu⟩:=hf
  obtain ⟨el,hd,hsize,hm,_⟩:=elemFits_iff hel
  have htyel:∀T,ty=some T→el=T:=fun T hT=>by
   rw [hT,hd] at htyf;exact (beq_iff_eq.1 htyf).symm
  obtain ⟨d2,hd2,hint⟩:=isK_some hint
  obtain ⟨inf,hinf,hinfs⟩:∃inf,P.info? el=some inf∧inf.size=m:=by
   unfold sizeT at hsize
   cases hi:P.info? el with
   | none=>simp [hi] at hsize
   | some i=>simp [hi] at hsize;exact ⟨i,rfl,hsize⟩
  have hbytes:inf.bytes=bytes:=by simpa [elemBytes,hd,hinf] using hby
  obtain ⟨zv,hzv,hzsz⟩:∃zv,inf.zero=some zv∧zv.cells.size=inf.size:=by
   unfold zeroOk at hzo
   rw [hd] at hzo
   simp only [hinf] at hzo
   split at hzo
   ·rename_i z hz;exact ⟨z,hz,by simpa using hzo⟩
   ·cases hzo
  have h1:=xFits_rep hE hG hx
  have h2:=xFits_rep hE hG hu
  simp only [opA] at h
  cases hys:elemsOf st m (z.ev e) with
  | none=>simp [hys] at h
  | some ys =>
   obtain ⟨xs,hck,hrun⟩:=r_elems (P:=P) hm hS h2 hys
   have hxl:=hck.length
   simp only [hys,Option.bind_some] at h
   replace h1:=h1.asLst (m:=m)
   cases hy:(y.ev e).asLst m<;>simp only [hy] at h<;>try (cases h;done)
   rename_i m' es ap
   rw [hy] at h1
   split at h
   ·rename_i hh
    obtain ⟨hmm,hgr,hb256⟩:=hh
    simp only [Rep] at h1
    obtain ⟨htok,hval⟩:=h1
    -- the old cells
    have hold:∃base' cap,a.eval x=.slice base' es.length cap∧es.length≤cap∧(ap=.tight→cap=es.length)∧∃oxs,Chunks J m es oxs ∧
      (∀w',w'.heap=w.heap→(Builtin.firstCells m es.length (.slice base' es.length cap)).run P w'=.ok oxs.toArray w'):=by
     rcases hval with ⟨e1,e2⟩ | ⟨ad,cap,e1,hsp,hcap,ht,helm⟩
     ·subst e2
      exact ⟨none,0,e1,Nat.le_refl _,fun _=>rfl,[],rfl,fun w' _=>by simp [Builtin.firstCells]⟩
     ·refine ⟨some ad,cap,e1,hcap,ht,?_⟩
      rcases hmm with rfl | rfl
      ·obtain ⟨oxs,hc,hrow⟩:=helm.chunks
       have hl:=hc.length
       refine ⟨oxs,hc,fun w' hw=>?_⟩
       simp only [Builtin.firstCells]
       rcases Nat.eq_zero_or_pos cap with h0 | h0
       ·have h0:es.length=0:=by omega
        have h1:oxs=[]:=List.eq_nil_of_length_eq_zero (by rw [hl,h0];simp)
        rw [h0,h1]
        simp [loadCells,loadCellsFrom]
       have hsp:=hsp h0
       have had:ad=⟨ad.block,ad.off,none⟩:=by cases ad;simp at hsp ⊢;exact hsp
       rw [had]
       have:=run_cellsOf (P:=P) (w:=w') (b:=ad.block) (off:=ad.off) (xs:=oxs) (fun j v e=>by rw [cell_congr (w:=w) (by rw [hw])];exact hS.imOk _ _ _ (hrow j v e)) (es.length * m') (by rw [hl];exact Nat.le_refl _)
       rw [this,List.take_of_length_le (by omega)]
      ·exact ⟨[],rfl,fun w' _=>by simp [Builtin.firstCells,loadCells,loadCellsFrom]⟩
    obtain ⟨base',cap,e1,hcap,htight,oxs,hock,holdrun⟩:=hold
    have hol:=hock.length
    -- a new row
    have new:∀id ob st0 ty1,Sim K base J st0 w→st0[id]?=some ob→(∀T,ty1=some T→el=T)→((ob=.dead∧∀k v,J.τ id k≠some v)∨(∃m' n0 ty0,ob=.tok m' n0 ty0∧n0<es.length+ys.length))→cap<es.length+ys.length →
      v=.lst m (es++ys) (.tok id)→st'=st0.set id (.tok m (es.length+ys.length) ty1)→Did P K base J (execOp a.eval o) w v st':=by
     intro id ob st0 ty1 hS0 hst0 hty1 hob hlt hv hst'
     subst hv hst'
     have hres:=cap_bound hlt hgr hb256
     let q:=Question.appendCap (es.length+ys.length) cap el
     have hq:q.forced=false:=rfl
     let w1:World:={ w with drawn:=w.drawn+1 }
     let newCap:=q.cut (w.tape w.drawn q)
     have hnew:es.length+ys.length≤newCap:=by show _≤_+_;omega
     let rest:=(Builtin.zeroCells zv.cells (newCap-(es.length+ys.length))).toList
     have hrest:rest.length=(newCap-(es.length+ys.length)) * m:=by simp [rest,Builtin.zeroCells,hzsz,hinfs]
     obtain ⟨hle,hsim,hrep⟩:=r_appendNew (need:=es.length+ys.length) (cap':=newCap) (t:=el) (w1:=w1) (ty:=ty1) hS0 hst0 hty1 hob rfl rfl rfl (hock.append hck) (by simp) (by omega) hnew hrest
     refine Did.of hle hsim hrep ?_
     have hnle:¬(es.length+ys.length≤cap):=by omega
     have hmax:¬(IntKind.i64.max<((es.length:Int)+(ys.length:Int))):=by
      unfold great at hgr
      simp [IntKind.max,IntKind.signed,IntKind.bits];omega
     have hlen:=(hrun w rfl).1
     have hfirst:=(hrun w1 rfl).2 ys.length (Nat.le_refl _)
     rw [List.take_of_length_le (by omega)] at hfirst
     have hzr:(zeroValue el).run P w1=.ok zv w1:=r_zero (by simp [hinf,hzv])
     refine r_builtin ho (fun cs=>?_)
     have hi2:∀k,d2≠.int k:=by intro k hk;subst hk;simp at hint
     have hres':¬(2 ^ 48<Builtin.nextslicecap (es.length+ys.length) cap * bytes):=hres
     simp only [builtin,Sem.run_bind]
     simp only [List.map_toArray,List.map_cons,List.map_nil]
     rw [e1,r_append_zero hd hsize hd2 hi2 hlen,if_neg hnle]
     simp only [Sem.run_bind,r_info hinf,hbytes,hres',hmax,Result.andThen_ok,Sem.run_pure,false_and,if_false,run_choose,run_askRoom,gt_iff_lt]
     rw [if_neg (fun h=>hmax (by simpa using h.1))]
     simp only [Sem.run_bind,r_info hinf,hbytes,hres',Result.andThen_ok,Sem.run_pure,if_false,run_choose,run_askRoom]
     rw [if_neg (by simp [Question.forced])]
     simp only [Result.andThen_ok]
     rw [holdrun w1 rfl]
     simp only [Result.andThen_ok]
     rw [hfirst]
     simp only [Result.andThen_ok]
     rw [hzr]
     simp [newRow,rest,newCap,q,w1]
     congr 2
     apply Array.toList_inj.1
     simp
    -- within what there is
    have within:∀w',es.length+ys.length≤cap→(∀ad,base'=some ad→(storeCells (ad.add (es.length * m)) xs).run P w=.ok () w')→(base'=none→w'=w) →
      (execOp a.eval o).run P w=.ok (.value (.slice base' (es.length+ys.length) cap)) w':=by
     intro w' hle hst hno
     have hlen:=(hrun w rfl).1
     have hfirst:=(hrun w rfl).2 ys.length (Nat.le_refl _)
     rw [List.take_of_length_le (by omega)] at hfirst
     refine r_builtin ho (fun cs=>?_)
     have hi2:∀k,d2≠.int k:=by intro k hk;subst hk;simp at hint
     simp only [builtin,Sem.run_bind]
     simp only [List.map_toArray,List.map_cons,List.map_nil]
     rw [e1,r_append_zero hd hsize hd2 hi2 hlen,if_pos hle,hfirst]
     cases base' with
     | none=>rw [hno rfl];simp
     | some ad=>simp [hst ad rfl]
    have hsame:∀ap',(∀id,ap'=.tok id→J.τ id es.length=some (a.eval x))→(ap'=.tight→ap=.tight)→ys=[]→v=.lst m (es++ys) ap'→st'=st→Did P K base J (execOp a.eval o) w v st':=by
     intro ap' htk hti hy0 hv hst'
     subst hv hst' hy0
     have hx0:xs=[]:=by simpa [Chunks] using hck
     have hr:=within w (by simpa using hcap) (fun ad _=>by rw [hx0];simp [storeCells]) (fun _=>rfl)
     refine Did.same hS (x:=a.eval x) ?_ (by rw [hr,e1];simp)
     simp only [Rep,List.append_nil]
     refine ⟨htk,?_⟩
     rcases hval with ⟨e2,e3⟩ | ⟨ad,cap',e2,hsp,hcap',ht,helm⟩
     ·exact .inl ⟨e2,e3⟩
     ·refine .inr ⟨ad,cap',e2,hsp,hcap',fun h=>ht (hti h),?_⟩
      rcases hmm with rfl | rfl
      ·exact helm
      ·simp [Elems]
    cases ap with
    | tight =>
     simp only [] at h
     split at h
     ·rename_i hys0
      simp only [Option.some.injEq,Nx.val.injEq] at h
      obtain ⟨h3,h4⟩:=h
      exact hsame .tight (fun id e=>(by cases e)) (fun _=>rfl) hys0 (by rw [←h3,hys0];simp) h4.symm
     ·rename_i hys0
      simp only [Option.some.injEq,Nx.val.injEq] at h
      obtain ⟨h3,h4⟩:=h
      have hpos:0<ys.length:=List.length_pos_iff.2 hys0
      have:=htight rfl
      exact new st.length .dead (st++[.dead]) ty hS.addDead (by simp) htyel (.inl ⟨rfl,fun k v e=>by rw [hS.τnew] at e;cases e⟩) (by omega) h3.symm (by rw [←h4];simp)
    | tok id =>
     simp only [] at h
     split at h
     ·rename_i htk
      have hst:∃ty0,st[id]?=some (.tok m es.length ty0)∧tokTy st id=ty0:=by
       unfold tokIs at htk
       split at htk
       ·rename_i m0 n0 ty0 hst
        simp only [Bool.and_eq_true,beq_iff_eq] at htk
        exact ⟨ty0,by rw [hst,htk.1,htk.2],by simp [tokTy,hst]⟩
       ·cases htk
      obtain ⟨ty0,hst,htt⟩:=hst
      have hτ:=htok id rfl
      split at h
      ·rename_i hys0
       simp only [Option.some.injEq,Nx.val.injEq] at h
       obtain ⟨h3,h4⟩:=h
       exact hsame (.tok id) (fun id' e=>by cases e;exact hτ) (fun e=>(by cases e)) hys0 (by rw [←h3,hys0];simp) h4.symm
      ·rename_i hys0
       simp only [Option.some.injEq,Nx.val.injEq] at h
       obtain ⟨h3,h4⟩:=h
       have hpos:0<ys.length:=List.length_pos_iff.2 hys0
       have hty2:∀T,(if tokTy st id=ty then ty else none)=some T→el=T:=fun T hT=>by
        split at hT
        ·exact htyel T hT
        ·cases hT
       by_cases hlt:cap<es.length+ys.length
       ·exact new id _ st _ hS hst hty2 (.inr ⟨m,es.length,ty0,rfl,by omega⟩) hlt h3.symm h4.symm
       ·have hob:=hS.obj id _ hst
        rcases hob with ⟨h0,s,hs⟩ | ⟨ad,cap',c,tt,q1,q2,q0,q3,q4,q5,q6,q7⟩
        ·rw [←h0,hτ,e1] at hs
         cases hs
         omega
        ·rw [hτ,e1] at q1
         cases q1
         rcases hval with ⟨e2,e3⟩ | ⟨ad',cap'',e2,hsp,hcap',ht,helm⟩
         ·rw [e1] at e2;cases e2
         ·rw [e1] at e2;cases e2
          have helm':Elems J m es ad.block ad.off:=by
           rcases hmm with rfl | rfl
           ·exact helm
           ·simp [Elems]
          rw [e1] at hτ
          have hty3:∀T,(if tokTy st id=ty then ty else none)=some T→tt=T∧ad.off=0:=fun T hT=>by
           split at hT
           ·rename_i heq
            exact q7 T (by rw [←htt,heq];exact hT)
           ·cases hT
          obtain ⟨J',w',hle,hsim,hrep,hstore⟩:=r_appendIn (P:=P) hS hst hty3 hτ q2 q0 q4 q5 q6 rfl helm' hck (by omega)
          have hr:=within w' (by omega) (fun ad' e=>by cases e;exact hstore) (fun e=>by cases e)
          subst h3 h4
          exact Did.of hle hsim hrep hr
     ·cases h
    | no=>simp at h
   ·cases h
 ·cases hf
end
end Go.Proofs.YtgkhmmlemgikjaaGreatDoor.Ai
namespace Go.Proofs.YtgkhmmlemgikjaaGreatDoor.Ai
open Go
theorem modify_push {α:Type} (h:Array α) (x:α) (f:α→α):(h.push x).modify h.size f=h.push (f x):=by
 apply Array.ext_getElem?
 intro i
 rw [Array.getElem?_modify,Array.getElem?_push,Array.getElem?_push]
 by_cases hi:h.size=i
 ·subst hi;simp
 ·rw [if_neg hi,if_neg (fun h=>hi h.symm),if_neg (fun h=>hi h.symm)]
section
variable {P:Program} {gl:List (Nat×AV)} {K:Sites} {base:Bs} {J:Inj} {st st':St} {w:World} {a:Act} {e:Env} {o:Oper} {v:AV}
variable (hS:Sim K base J st w) (hE:Reps J e a.tmps.toList) (hG:GlOk gl J)
include hS hE hG
theorem did_copy {m:Nat} {y z:AX} (hf:opFits P gl o.op (.copy m y z)=true) (h:opA (.copy m y z) e st=some (.val v st')):Did P K base J (execOp a.eval o) w v st':=by
 simp only [opFits] at hf
 split at hf
 ·rename_i x u t t2 ho
  simp only [Bool.and_eq_true] at hf
  obtain ⟨⟨hel,hx⟩,hu⟩:=hf
  obtain ⟨el,hd,hsize,hm,_⟩:=elemFits_iff hel
  have h1:=xFits_rep hE hG hx
  have h2:=xFits_rep hE hG hu
  simp only [opA] at h
  cases hy:y.ev e<;>simp only [hy] at h<;>try (cases h;done)
  rename_i r m' off n cap
  cases hys:elemsOf st m (z.ev e) with
  | none=>simp [hys] at h
  | some ys =>
   obtain ⟨xs,hck,hrun⟩:=r_elems (P:=P) hm hS h2 hys
   have hxl:=hck.length
   simp only [hys,Option.bind_some] at h
   cases hst:st[r]? with
   | none=>simp [hst] at h
   | some ob =>
    cases ob<;>simp only [hst] at h<;>try (cases h;done)
    rename_i cs
    split at h
    ·rename_i hh
     obtain ⟨rfl,hle⟩:=hh
     simp only [Option.some.injEq,Nx.val.injEq] at h
     obtain ⟨rfl,rfl⟩:=h
     rw [hy] at h1;simp only [Rep] at h1
     obtain ⟨b,c,hb,e1,hnc,_⟩:=h1
     obtain ⟨b',cc,tt,q1,⟨fr,q2,qfr⟩,q3,q4,q5,qty⟩:=hS.obj r _ hst
     rw [hb] at q1;cases q1
     have hck':=hck.take n
     have hl':=hck'.length
     have hk:(ys.take n).length=min ys.length n:=by simp;omega
     have hkm:(min ys.length n) * m'≤n * m':=Nat.mul_le_mul_right _ (Nat.min_le_right _ _)
     have hlen:=(hrun w rfl).1
     have hfirst:=(hrun w rfl).2 (min ys.length n) (Nat.min_le_left _ _)
     have hxeq:xs.take (min ys.length n * m')=xs.take (n * m'):=by
      by_cases hle2:ys.length≤n
      ·rw [Nat.min_eq_left hle2,List.take_of_length_le (by omega),List.take_of_length_le (by rw [hxl];exact Nat.mul_le_mul_right _ hle2)]
      ·rw [Nat.min_eq_right (by omega)]
     rw [hxeq] at hfirst
     obtain ⟨w',g1,g2,g3,g4,g5,g6⟩:=run_storeCells P ⟨b,off,none⟩ rfl tt fr (xs.take (n * m')) w 0 cc q2 qfr (by rw [hl',hk];simp only [Nat.add_zero];omega) (hck'.reps.oneCells hck'.isCell)
     refine Did.of (Inj.le.refl J) (hS.upd hst hb rfl (by simp) rfl (by simp) g2 g3 g4 g5 ?_) (x:=.int .i64 (min ys.length n:Nat)) (by simp only [Rep];congr 1;omega) (r_builtin ho (fun cs'=>?_))
     ·refine ⟨b,_,tt,hb,⟨fr,g6,by rw [putV_size];exact qfr⟩,?_,?_,putCells_isCell _ _ _ q5 hck'.isCell,by rw [putCells_length,putV_size];exact qty⟩
      ·rw [putCells_length,putV_size];exact q3
      ·rw [putCells_length];exact putCells_reps _ _ _ _ _ _ hck'.reps q4
     ·simp only [builtin,Builtin.copy_,List.map_toArray,List.map_cons,List.map_nil,Sem.run_bind]
      have hmin:Nat.min ys.length n=min ys.length n:=rfl
      simp [e1,r_under hd,r_size hsize,hlen,hmin,hfirst,goInt]
      rw [g1]
      simp
    ·cases h
 ·cases hf
theorem did_convBytes {mu:Bool} {y:AX} (hf:opFits P gl o.op (.convBytes mu y)=true) (h:opA (.convBytes mu y) e st=some (.val v st')):Did P K base J (execOp a.eval o) w v st':=by
 cases ho:o.op<;>simp only [ho,opFits,Bool.false_eq_true] at hf
 rename_i s d x
 simp only [Bool.and_eq_true] at hf
 obtain ⟨⟨hs,hd⟩,hx⟩:=hf
 obtain ⟨ds,hs,hk⟩:=isK_some hs
 cases ds<;>simp at hk
 split at hd
 ·rename_i el hd'
  obtain ⟨de,he,hk⟩:=isK_some hd
  have he':P.underlying el=some (.int .u8):=by
   cases de with
   | int k=>cases k<;>first | exact he | (simp at hk;done)
   | _=>simp at hk
  have h1:=xFits_rep hE hG hx
  simp only [opA] at h
  cases hy:y.ev e<;>simp only [hy] at h<;>try (cases h;done)
  rename_i l
  rw [hy] at h1;simp only [Rep] at h1
  obtain ⟨ba,e1,hl⟩:=h1
  -- the row that is made
  let q:=Question.appendCap ba.size 0 el
  have hq:q.forced=false:=rfl
  let w1:World:={ w with drawn:=w.drawn+1 }
  let cp:=q.cut (w.tape w.drawn q)
  have hcp:ba.size≤cp:=by show _≤_+_;omega
  let elems:Array Value:=ba.data.map fun b=>.int .u8 b.toNat
  let c:=elems++Array.replicate (cp-ba.size) (.int .u8 0)
  have hcs:c.size=cp:=by simp [c,elems];omega
  have hrun:(execOp a.eval o).run P w=.ok (.value (.slice (some ⟨w.heap.size,0,none⟩) ba.size cp)) { w1 with heap:=w.heap.push (.cells c el (cp,cp+1)) }:=by
   have hcs':(elems++Array.replicate (cp-ba.size) (Value.int IntKind.u8 0)).size=cp:=hcs
   have hshape:∀(w2:World),w2.heap=w.heap.push (.cells c el (0,0))→w2.shape? w.heap.size=some (el,cp):=by
    intro w2 hw2;simp [World.shape?,hw2,hcs]
   simp only [execOp,ho,e1,convert,Sem.run_bind,r_under hs,r_under hd',r_under he',Result.andThen_ok,Conv.stringToBytes,run_choose]
   rw [if_neg (by simp [Question.forced])]
   simp only [Result.andThen_ok,newRow,Sem.run_bind,run_newObj,Sem.run_pure]
   simp only [markStringish,Sem.run_bind,run_shape]
   rw [hshape _ rfl]
   simp only [Result.andThen_ok,run_freeze,Sem.run_pure]
   congr 1
   simp only [World.freeze]
   rw [if_neg (by simp)]
   simp only [w1,modify_push]
   rfl
  have hS1:Sim K base J st w1:=hS.same rfl rfl rfl
  have hck:=Chunks.bytes (J:=J) ba.data.toList
  have hce:c.toList=(ba.data.toList.map fun b=>Value.int .u8 b.toNat)++List.replicate (cp-ba.size) (.int .u8 0):=by simp [c,elems]
  have hsz:ba.data.toList.length=ba.size:=by simp
  subst hl
  cases mu with
  | true =>
   simp only [if_true,Option.some.injEq,Nx.val.injEq] at h
   obtain ⟨rfl,rfl⟩:=h
   refine Did.of (hS1.bind_le _ cp) (hS1.add (.cells c el (cp,cp+1)) (.cells none (ba.data.toList.map byteV)) rfl (by simp) ?_) ?_ hrun
   ·refine ⟨w.heap.size,c,el,by simp [Inj.bind,w1],⟨(cp,cp+1),by simp [w1],fun k hk hh=>by rw [hcs] at hk;simp at hh;omega⟩,by simp [hcs];omega,?_,?_,(fun _ hT=>by cases hT),cp,by simp [Inj.bind],by simp;omega,by omega⟩
    ·rw [hce,List.take_left' (by simp)]
     have:Reps J (flat (ba.data.toList.map byteV)) _:=hck.reps
     have hfl:∀l:List UInt8,flat (l.map byteV)=l.map byteV:=by
      intro l;induction l with
      | nil=>rfl
      | cons b l ih=>simp [flat,ih,byteV,AV.cells]
     rw [hfl] at this
     exact Reps.mono (hS1.bind_le _ _) _ _ this
    ·rw [List.all_eq_true];intro z hz;obtain ⟨b,_,rfl⟩:=List.mem_map.1 hz;rfl
   ·simp only [Rep]
    exact ⟨w.heap.size,cp,by simp [Inj.bind,w1],by rw [hsz],by rw [hsz];exact hcp,(fun k e=>by cases e),cp,by simp [Inj.bind],by omega⟩
  | false =>
   simp only [Bool.false_eq_true,if_false,Option.some.injEq,Nx.val.injEq] at h
   obtain ⟨rfl,rfl⟩:=h
   refine Did.of (hS1.stay_le c) (hS1.addStill c el (cp,cp+1)) ?_ hrun
   simp only [Rep]
   refine ⟨fun id e=>(by cases e),.inr ⟨⟨w.heap.size,0,none⟩,cp,by simp,fun _=>rfl,by simp;exact hcp,fun e=>(by cases e),?_⟩⟩
   refine Elems.of_chunks (hck.mono (hS1.stay_le c)) (fun i v hv=>?_)
   have hi:=(List.getElem?_eq_some_iff.1 hv).1
   show (if w.heap.size=w1.heap.size then c[0+i]? else _)=some v
   rw [if_pos rfl,Nat.zero_add]
   have:c.toList[i]?=some v:=by rw [hce,List.getElem?_append_left hi];exact hv
   simpa using this
 ·cases hd
end
end Go.Proofs.YtgkhmmlemgikjaaGreatDoor.Ai
namespace Go.Proofs.YtgkhmmlemgikjaaGreatDoor.Ai
open Go
theorem run_bytes (P:Program) (w:World):∀(l:List Value) (r:ByteArray) (es:List AV) (s:List UInt8) (J:Inj),Reps J es l→ofBytes es=some s →
  ∃r',(forIn l r (fun c (s:ByteArray)=>(match c with
   | .int .u8 n=>pure (ForInStep.yield (s.push (UInt8.ofNat n.toNat)))
   | _=>do
    stuck "bytesToString: byte expected"
    pure (ForInStep.yield s):Sem (ForInStep ByteArray)))).run P w=.ok r' w∧r'.data.toList=r.data.toList++s
 | l,r,[],s,J,h,e=>by
  simp only [Reps] at h;subst h
  simp [ofBytes] at e;subst e
  exact ⟨r,by simp,by simp⟩
 | l,r,u::es,s,J,h,e=>by
  simp only [Reps] at h;obtain ⟨y,ys,rfl,h1,h2⟩:=h
  cases u with
  | int k n =>
   cases k with
   | u8 =>
    simp only [ofBytes] at e
    split at e
    ·rename_i hn
     cases hs:ofBytes es with
     | none=>simp [hs] at e
     | some s' =>
      simp [hs] at e;subst e
      simp only [Rep] at h1;subst h1
      obtain ⟨r',g1,g2⟩:=run_bytes P w ys (r.push (UInt8.ofNat n.toNat)) es s' J h2 hs
      refine ⟨r',?_,by rw [g2];simp⟩
      simp only [List.forIn_cons,Sem.run_bind,Sem.run_pure,Result.andThen_ok]
      exact g1
    ·cases e
   | _=>simp [ofBytes] at e
  | _=>simp [ofBytes] at e
section
variable {P:Program} {gl:List (Nat×AV)} {K:Sites} {base:Bs} {J:Inj} {st st':St} {w:World} {a:Act} {e:Env} {o:Oper} {v:AV}
variable (hS:Sim K base J st w) (hE:Reps J e a.tmps.toList) (hG:GlOk gl J)
include hS hE hG
theorem did_convStr {y:AX} (hf:opFits P gl o.op (.convStr y)=true) (h:opA (.convStr y) e st=some (.val v st')):Did P K base J (execOp a.eval o) w v st':=by
 cases ho:o.op<;>simp only [ho,opFits,Bool.false_eq_true] at hf
 rename_i s d x
 simp only [Bool.and_eq_true] at hf
 obtain ⟨⟨hd,hs⟩,hx⟩:=hf
 obtain ⟨dd,hd,hk⟩:=isK_some hd
 cases dd<;>simp at hk
 split at hs
 ·rename_i el hs'
  obtain ⟨de,he,hk⟩:=isK_some hs
  have he':P.underlying el=some (.int .u8):=by
   cases de with
   | int k=>cases k<;>first | exact he | (simp at hk;done)
   | _=>simp at hk
  have h1:=xFits_rep hE hG hx
  have fin:∀(ad:Addr) (n cap:Nat) (es:List AV) (xs:List Value) (s':List UInt8),a.eval x=.slice (some ad) n cap→(loadCells ad n).run P w=.ok xs.toArray w→Reps J es xs→ofBytes es=some s' →
    v=.str s'→st'=st→Did P K base J (execOp a.eval o) w v st':=by
   intro ad n cap es xs s' e1 hload hr hb hv hst
   subst hv hst
   obtain ⟨r',g1,g2⟩:=run_bytes P w xs ByteArray.empty es s' J hr hb
   refine Did.same hS (x:=.string r') (by simp only [Rep];exact ⟨r',rfl,by rw [g2];simp⟩) ?_
   simp only [execOp,ho,e1,convert,Sem.run_bind,r_under hs',r_under hd,r_under he',Result.andThen_ok,Conv.bytesToString,hload]
   rw [List.forIn_toArray]
   refine (congrArg (fun q:Result ByteArray=>(q.andThen fun a w'=>Sem.run P (pure (Value.string a)) w').andThen fun a w'=>Sem.run P (pure (Next.value a)) w') g1).trans ?_
   simp
  simp only [opA] at h
  cases hy:y.ev e<;>simp only [hy] at h<;>try (cases h;done)
  all_goals rw [hy] at h1;simp only [Rep] at h1
  ·rename_i m es ap
   split at h
   ·rename_i hm
    subst hm
    cases hb:ofBytes es with
    | none=>simp [hb] at h
    | some s' =>
     simp only [hb,Option.map_some,Option.some.injEq,Nx.val.injEq] at h
     obtain ⟨h3,h4⟩:=h
     obtain ⟨_,⟨e1,e2⟩ | ⟨ad,cap,e1,hsp,hcap,_,helm⟩⟩:=h1
     ·subst e2
      simp [ofBytes] at hb
      subst hb h3 h4
      refine Did.same hS (x:=.string ByteArray.empty) (by simp only [Rep];exact ⟨_,rfl,by simp⟩) ?_
      simp [execOp,ho,e1,convert,r_under hs',r_under hd,r_under he',Conv.bytesToString]
     ·obtain ⟨xs,hc,hrow⟩:=helm.chunks
      have hl:=hc.length
      have hfl:flat es=es:=by
       have:∀(es:List AV) s',ofBytes es=some s'→flat es=es:=by
        intro es
        induction es with
        | nil=>intro _ _;rfl
        | cons u es ih =>
         intro s' hs'
         cases u with
         | int k n =>
          cases k with
          | u8 =>
           simp only [ofBytes] at hs'
           split at hs'
           ·cases ho:ofBytes es with
            | none=>simp [ho] at hs'
            | some q=>simp [flat,AV.cells,ih q ho]
           ·cases hs'
          | _=>simp [ofBytes] at hs'
         | _=>simp [ofBytes] at hs'
       exact this es s' hb
      have hr:=hc.reps
      rw [hfl] at hr
      rcases Nat.eq_zero_or_pos cap with h0 | h0
      ·have h1:es.length=0:=by omega
       have h2:xs=[]:=List.eq_nil_of_length_eq_zero (by omega)
       refine fin ad es.length cap es xs s' e1 ?_ hr hb h3.symm h4.symm
       rw [h1,h2]
       simp [loadCells,loadCellsFrom]
      have hsp:=hsp h0
      have had:ad=⟨ad.block,ad.off,none⟩:=by cases ad;simp at hsp ⊢;exact hsp
      refine fin ad es.length cap es xs s' e1 ?_ hr hb h3.symm h4.symm
      rw [had]
      have:=run_cellsOf (P:=P) (w:=w) (b:=ad.block) (off:=ad.off) (xs:=xs) (fun j v e=>hS.imOk _ _ _ (hrow j v e)) es.length (by omega)
      rwa [List.take_of_length_le (by omega)] at this
   ·cases h
  ·rename_i r m off n cap
   cases hst:st[r]? with
   | none=>simp [hst] at h
   | some ob =>
    cases ob<;>simp only [hst] at h<;>try (cases h;done)
    rename_i cs
    split at h
    ·rename_i hm
     obtain ⟨hm,hle⟩:=hm
     subst hm
     cases hb:ofBytes ((cs.drop off).take n) with
     | none=>simp [hb] at h
     | some s' =>
      simp only [hb,Option.map_some,Option.some.injEq,Nx.val.injEq] at h
      obtain ⟨h3,h4⟩:=h
      obtain ⟨b,c,hb',e1,hnc,_⟩:=h1
      obtain ⟨b',cc,tt,q1,⟨fr,q2,qfr⟩,q3,q4,q5,qty⟩:=hS.obj r _ hst
      rw [hb'] at q1;cases q1
      have hr:=(q4.drop off).take n
      have hxl:(((cc.toList.take cs.length).drop off).take n).length=n:=by simp;omega
      refine fin ⟨b,off,none⟩ n c _ _ s' e1 ?_ hr hb h3.symm h4.symm
      have:=run_cellsOf (P:=P) (w:=w) (b:=b) (off:=off) (xs:=((cc.toList.take cs.length).drop off).take n) (fun j v e=>by
       rw [cell_of_heap q2]
       rw [List.getElem?_take] at e;split at e
       ·rw [List.getElem?_drop,List.getElem?_take] at e;split at e
        ·simpa using e
        ·cases e
       ·cases e) n (by omega)
      rwa [List.take_of_length_le (by omega)] at this
    ·cases h
 ·cases hs
theorem did_assertT {t:TypeId} {zero:AV} {ok:Bool} {y:AX} (hf:opFits P gl o.op (.assertT t zero ok y)=true) (h:opA (.assertT t zero ok y) e st=some (.val v st')):Did P K base J (execOp a.eval o) w v st':=by
 cases ho:o.op<;>simp only [ho,opFits,Bool.false_eq_true] at hf
 rename_i x xt u ok'
 simp only [Bool.and_eq_true,beq_iff_eq] at hf
 obtain ⟨⟨⟨⟨rfl,rfl⟩,hk⟩,hz⟩,hx⟩:=hf
 obtain ⟨d,hd,hk⟩:=isK_some hk
 have h1:=xFits_rep hE hG hx
 simp only [opA] at h
 cases hy:y.ev e<;>simp only [hy] at h<;>try (cases h;done)
 rename_i u q
 rw [hy] at h1;simp only [Rep] at h1
 obtain ⟨z,e1,hr⟩:=h1
 have hd':∀(static:Option TypeId) (v1:Sem Value) (f:Array (String×TypeId)→Sem Value),(match d,Value.iface u z with
   | .interface _,.nilIface=>v1
   | .interface want,.iface t _=>f want
   | _,.nilIface=>v1
   | _,.iface t v=>v1
   | _,_=>v1)=v1:=by
  intro _ _ _;cases d<;>simp at hk ⊢
 split at h
 ·rename_i hut
  subst hut
  simp only [Option.some.injEq,Nx.val.injEq] at h
  obtain ⟨rfl,rfl⟩:=h
  cases ok with
  | true =>
   refine Did.same hS (x:=.tuple #[z,.bool true]) (by simp only [Rep];exact ⟨_,rfl,by simp [Reps,Rep,hr]⟩) ?_
   simp only [execOp,ho,e1,Instr.typeAssert,Sem.run_bind,r_under hd,Result.andThen_ok]
   cases d<;>simp at hk ⊢
  | false =>
   refine Did.same hS hr ?_
   simp only [execOp,ho,e1,Instr.typeAssert,Sem.run_bind,r_under hd,Result.andThen_ok]
   cases d<;>simp at hk ⊢
 ·rename_i hut
  split at h
  ·rename_i hok
   subst hok
   simp only [Option.some.injEq,Nx.val.injEq] at h
   obtain ⟨rfl,rfl⟩:=h
   unfold zeroFits at hz
   split at hz
   ·rename_i zv hzv
    simp only [Bool.and_eq_true] at hz
    have hzr:=constFits_rep (J:=J) _ _ hz.1
    refine Did.same hS (x:=.tuple #[zv,.bool false]) (by simp only [Rep];exact ⟨_,rfl,by simp [Reps,Rep,hzr]⟩) ?_
    simp only [execOp,ho,e1,Instr.typeAssert,Sem.run_bind,r_under hd,Result.andThen_ok]
    cases d<;>simp [hut,r_zero hzv] at hk ⊢
   ·cases hz
  ·cases h
omit hS hE hG in
theorem sameKey_now {d:TypeDesc} {k q:AV} {x y:Value} {b:Bool} (hk:Rep J k x) (hq:Rep J q y) (hd:kindD d=keyKind k) (h3:keyKind k<3) (h:sameKey k q=some b):Instr.sameNow d x y=some b:=by
 cases k<;>cases q<;>simp only [sameKey] at h<;>try (cases h;done)
 all_goals
  simp only [Rep] at hk hq
  cases d<;>simp [kindD,keyKind] at hd
 ·cases h;subst hk hq;simp [Instr.sameNow]
 ·subst hk hq;simp [Instr.sameNow];split at h<;>simp_all
 ·cases h;obtain ⟨b1,rfl,rfl⟩:=hk;obtain ⟨b2,rfl,rfl⟩:=hq
  simp only [Instr.sameNow]
  cases b1 with | mk x=>cases b2 with | mk y =>
  congr 1
  rw [Bool.eq_iff_iff]
  show (x == y)=true↔_
  simp
omit hS hE hG in
theorem findKey_now {d:TypeDesc} {k:AV} {x:Value} (hk:Rep J k x) (hd:kindD d=keyKind k) (h3:keyKind k<3):∀(es:List (AV×AV)) (xs:List MapEntry) (i:Nat) (r:Option (Nat×AV)),
  (∀(j:Nat) e,es[j]?=some e→∃z,xs[j]?=some z∧Rep J e.1 z.key∧Rep J e.2 z.val)→es.length=xs.length→findKey k es i=some r →
  (match r with
   | none=>Instr.findNow d x xs i=some none
   | some (n,u)=>i≤n∧n<i+es.length∧∃z,xs[n-i]?=some z∧Rep J u z.val∧Instr.findNow d x xs i=some (some (n,z.val))∧∃e,es[n-i]?=some e∧sameKey k e.1=some true)
 | [],[],i,r,_,_,h=>by simp [findKey] at h;subst h;simp [Instr.findNow]
 | [],_::_,_,_,_,hl,_=>by simp at hl
 | _::_,[],_,_,_,hl,_=>by simp at hl
 | e::es,z::xs,i,r,hr,hl,h=>by
  obtain ⟨z',hz',h1,h2⟩:=hr 0 e (by simp)
  simp at hz';subst hz'
  simp only [findKey] at h
  cases hs:sameKey k e.1 with
  | none=>simp [hs] at h
  | some b =>
   have hn:=sameKey_now hk h1 hd h3 hs
   cases b with
   | true =>
    simp [hs] at h;subst h
    refine ⟨Nat.le_refl _,by simp,z,by simp,h2,by simp [Instr.findNow,hn],e,by simp,hs⟩
   | false =>
    simp [hs] at h
    have:=findKey_now hk hd h3 es xs (i+1) r (fun j e' he=>by simpa using hr (j+1) e' (by simpa using he)) (by simpa using hl) h
    cases r with
    | none=>simpa [Instr.findNow,hn] using this
    | some p =>
     obtain ⟨n,u⟩:=p
     obtain ⟨g1,g2,z2,g3,g4,g5,e2,g6,g7⟩:=this
     refine ⟨by omega,by simp;omega,z2,?_,g4,by simp [Instr.findNow,hn,g5],e2,?_,g7⟩
     ·rw [show n-i=(n-(i+1))+1 by omega];simpa using g3
     ·rw [show n-i=(n-(i+1))+1 by omega];simpa using g6
def FoundV (J:Inj):Option (Nat×AV)→Option (Nat×Value)→Prop
 | none,q=>q=none
 | some (_,u),q=>∃n z,q=some (n,z)∧Rep J u z
def lookedUp (zv:Value):Option (Nat×Value)→Value
 | some (_,v)=>v
 | none=>zv
omit hS hE hG in
theorem r_checkKey {b:Bool} {n:Nat} {t:TypeId} {d:TypeDesc} {x:Value} (hd:P.underlying t=some d) (hk:kindD d<3):(Instr.checkKey b (n+1) t x).run P w=.ok () w:=by
 simp only [Instr.checkKey,Sem.run_bind,r_under hd,Result.andThen_ok]
 cases d<;>simp [kindD] at hk<;>rfl
theorem did_lookup {kd:Nat} {zero:AV} {ok:Bool} {y z:AX} (hf:opFits P gl o.op (.lookup kd zero ok y z)=true) (h:opA (.lookup kd zero ok y z) e st=some (.val v st')):Did P K base J (execOp a.eval o) w v st':=by
 cases ho:o.op<;>simp only [ho,opFits,Bool.false_eq_true] at hf
 rename_i t x ix ok'
 simp only [Bool.and_eq_true,beq_iff_eq] at hf
 obtain ⟨⟨⟨rfl,hm⟩,hx⟩,hi⟩:=hf
 split at hm
 ·rename_i kt et hd
  simp only [Bool.and_eq_true,decide_eq_true_eq] at hm
  obtain ⟨⟨hk,h3⟩,hz⟩:=hm
  obtain ⟨dk,hdk,hk⟩:=isK_some hk
  simp only [beq_iff_eq] at hk
  unfold zeroFits at hz
  split at hz
  ·rename_i zv hzv
   simp only [Bool.and_eq_true] at hz
   have hzr:=constFits_rep (J:=J) _ _ hz.1
   have h1:=xFits_rep hE hG hx
   have h2:=xFits_rep hE hG hi
   simp only [opA] at h
   split at h
   ·rename_i hkind
    cases hmo:mapOf st (y.ev e) with
    | none=>simp [hmo] at h
    | some es =>
     simp only [hmo,Option.bind_some] at h
     cases hfk:findKey (z.ev e) es 0 with
     | none=>simp [hfk] at h
     | some r =>
      simp only [hfk,Option.map_some,Option.some.injEq,Nx.val.injEq] at h
      obtain ⟨rfl,rfl⟩:=h
      have hck:∀b,(Instr.checkKey b 10000 kt (a.eval ix)).run P w=.ok () w:=fun b=>r_checkKey hdk (by omega)
      have hrun:∃q:Option (Nat×Value),(execOp a.eval o).run P w=.ok (.value (if ok=true then .tuple #[lookedUp zv q,.bool q.isSome] else lookedUp zv q)) w∧FoundV J r q:=by
       rcases r_map hS h1 hmo with ⟨e1,e2,_⟩ | ⟨r',b,ents,clock,_,_,_,e1,hh,hmm⟩
       ·subst e2
        simp [findKey] at hfk
        subst hfk
        refine ⟨none,?_,rfl⟩
        have hfind:(Instr.findKey kt (a.eval ix) []).run P w=.ok none w:=by
         simp only [Instr.findKey,Sem.run_bind,r_under hdk,Result.andThen_ok,Instr.findNow];rfl
        cases ok<;>simp [execOp,ho,e1,Instr.lookup,r_under hd,hck,hfind,r_zero hzv,lookedUp]
       ·have hnow:=findKey_now h2 (by rw [hk,hkind]) (by omega) es ents.toList 0 r hmm.2 hmm.1 hfk
        have hfind:∃q:Option (Nat×Value),(Instr.findKey kt (a.eval ix) ents.toList).run P w=.ok q w∧FoundV J r q:=by
         cases r with
         | none =>
          refine ⟨none,?_,rfl⟩
          simp only [Instr.findKey,Sem.run_bind,r_under hdk,Result.andThen_ok]
          simp only [] at hnow
          rw [hnow];rfl
         | some p =>
          obtain ⟨n,u⟩:=p
          obtain ⟨_,_,z,_,hzr,hfn,_⟩:=hnow
          refine ⟨some (n,z.val),?_,n,z.val,rfl,hzr⟩
          simp only [Instr.findKey,Sem.run_bind,r_under hdk,Result.andThen_ok]
          rw [hfn];rfl
        obtain ⟨q,hq,hqr⟩:=hfind
        refine ⟨q,?_,hqr⟩
        cases q with
        | none=>cases ok<;>simp [execOp,ho,e1,Instr.lookup,r_under hd,getObj,Sem.run,hh,hck,hq,r_zero hzv,lookedUp]
        | some p=>cases ok<;>simp [execOp,ho,e1,Instr.lookup,r_under hd,getObj,Sem.run,hh,hck,hq,lookedUp]
      obtain ⟨q,hrun,hqr⟩:=hrun
      cases r with
      | none =>
       simp only [FoundV] at hqr;subst hqr
       have:=hrun
       simp only [lookedUp] at this
       cases ok with
       | true=>exact Did.same hS (by simp only [Rep,if_true];exact ⟨_,rfl,by simp [Reps,Rep,hzr]⟩) this
       | false=>exact Did.same hS (by simpa using hzr) this
      | some p =>
       obtain ⟨n,z,rfl,hzr⟩:=hqr
       have:=hrun
       simp only [lookedUp] at this
       cases ok with
       | true=>exact Did.same hS (by simp only [Rep,if_true];exact ⟨_,rfl,by simp [Reps,Rep,hzr]⟩) this
       | false=>exact Did.same hS (by simpa using hzr) this
   ·cases h
  ·cases hz
 ·cases hm
end
end Go.Proofs.YtgkhmmlemgikjaaGreatDoor.Ai
namespace Go.Proofs.YtgkhmmlemgikjaaGreatDoor.Ai
open Go
theorem sameBits_of {J:Inj} {k q:AV} {x y:Value} (hk:Rep J k x) (hq:Rep J q y) (h:sameKey q k=some true):Instr.sameBits 10000 x y=true:=by
 cases k<;>cases q<;>simp only [sameKey] at h<;>try (cases h;done)
 all_goals simp only [Rep] at hk hq
 ·simp at h;subst hk hq;simp [Instr.sameBits,h]
 ·split at h
  ·simp at h;subst hk hq;simp_all [Instr.sameBits]
  ·cases h
 ·simp at h
  obtain ⟨b1,rfl,rfl⟩:=hk;obtain ⟨b2,rfl,rfl⟩:=hq
  cases b1 with | mk x=>cases b2 with | mk y =>
  simp only [Instr.sameBits]
  show (x == y)=true
  simp [Array.toList_inj] at h ⊢
  exact h.symm
section
variable {P:Program} {gl:List (Nat×AV)} {K:Sites} {base:Bs} {J:Inj} {st st':St} {w:World} {a:Act} {e:Env} {o:Oper} {v:AV}
variable (hS:Sim K base J st w) (hE:Reps J e a.tmps.toList) (hG:GlOk gl J)
include hS hE hG
theorem did_mapUpdate {kd:Nat} {y z u:AX} (hf:opFits P gl o.op (.mapUpdate kd y z u)=true) (h:opA (.mapUpdate kd y z u) e st=some (.val v st')):Did P K base J (execOp a.eval o) w v st':=by
 have main:∀(t:TypeId) (x ix vv:Operand),(execOp a.eval o)=(do Instr.mapUpdate t (a.eval x) (a.eval ix) (a.eval vv);pure .skip:Sem Next) →
   ((match P.underlying t with | some (.map k _)=>isK P k (fun d=>kindD d == kd) && decide (kd<3) | _=>false) && xFits gl x y && xFits gl ix z && xFits gl vv u)=true→Did P K base J (execOp a.eval o) w v st':=by
  intro t x ix vv ho hf
  simp only [Bool.and_eq_true] at hf
  obtain ⟨⟨⟨hm,hx⟩,hi⟩,hv⟩:=hf
  split at hm
  ·rename_i kt et hd
   simp only [Bool.and_eq_true,decide_eq_true_eq] at hm
   obtain ⟨hk,h3⟩:=hm
   obtain ⟨dk,hdk,hk⟩:=isK_some hk
   simp only [beq_iff_eq] at hk
   have h1:=xFits_rep hE hG hx
   have h2:=xFits_rep hE hG hi
   have h4:=xFits_rep hE hG hv
   simp only [opA] at h
   cases hy:y.ev e<;>simp only [hy] at h<;>try (cases h;done)
   rename_i r
   cases hst:st[r]? with
   | none=>simp [hst] at h
   | some ob =>
    cases ob<;>simp only [hst] at h<;>try (cases h;done)
    rename_i es
    split at h
    ·rename_i hkind
     rw [hy] at h1;simp only [Rep] at h1
     obtain ⟨b,hb,e1⟩:=h1
     obtain ⟨b',ents,clock,q1,hh,hmm⟩:=hS.obj r _ hst
     rw [hb] at q1;cases q1
     have hck:∀b,(Instr.checkKey b 10000 kt (a.eval ix)).run P w=.ok () w:=fun b=>r_checkKey hdk (by omega)
     have hbl:=heap_lt hh
     -- the block set
     have hset:∀(ob:Obj),(setObj b ob).run P w=.ok () { w with heap:=w.heap.setIfInBounds b ob }:=by
      intro ob;simp [setObj,Sem.run,hh]
     have upd:∀(ents':Array MapEntry) (clock':Nat) (es':List (AV×AV)),RepsM J es' ents'.toList→Sim K base J (st.set r (.map es')) { w with heap:=w.heap.setIfInBounds b (.map ents' clock') }:=by
      intro ents' clock' es' hr
      refine hS.upd hst hb rfl (by simp) rfl (by simp) rfl rfl (by simp) (fun b' hne=>by simp [Array.getElem?_setIfInBounds,Ne.symm hne]) ?_
      exact ⟨b,ents',clock',hb,by simp [hbl],hr⟩
     cases hfk:findKey (z.ev e) es 0 with
     | none=>simp [hfk] at h
     | some f =>
      simp only [hfk,Option.bind_some] at h
      have hnow:=findKey_now h2 (by rw [hk,hkind]) (by omega) es ents.toList 0 f hmm.2 hmm.1 hfk
      cases f with
      | none =>
       simp only [Option.some.injEq,Nx.val.injEq] at h
       obtain ⟨rfl,rfl⟩:=h
       simp only [] at hnow
       have hfind:(Instr.findKey kt (a.eval ix) ents.toList).run P w=.ok none w:=by
        simp only [Instr.findKey,Sem.run_bind,r_under hdk,Result.andThen_ok];rw [hnow];rfl
       refine ⟨J,_,Go.undef,Inj.le.refl J,upd (ents.push { key:=a.eval ix,val:=a.eval vv,born:=clock }) (clock+1) _ ?_,Rep.undef,.inr ⟨?_,rfl⟩⟩
       ·refine ⟨by simp [hmm.1],fun i p hp=>?_⟩
        rcases Nat.lt_trichotomy i es.length with hlt | heq | hgt
        ·rw [List.getElem?_append_left hlt] at hp
         obtain ⟨q,hq,hr⟩:=hmm.2 i p hp
         refine ⟨q,?_,hr⟩
         simp only [Array.toList_push]
         rw [List.getElem?_append_left (by rw [←hmm.1];exact hlt)];exact hq
        ·subst heq
         simp at hp;subst hp
         have hl:=hmm.1
         refine ⟨{ key:=a.eval ix,val:=a.eval vv,born:=clock },?_,h2,h4⟩
         simp only [Array.toList_push]
         rw [List.getElem?_append_right (by omega)];simp [hl]
        ·rw [List.getElem?_eq_none (by simp;omega)] at hp;cases hp
       ·rw [ho]
        simp [e1,Instr.mapUpdate,r_under hd,getObj,Sem.run,hh,hck,hfind,hset]
      | some p =>
       obtain ⟨j,q⟩:=p
       simp only [Option.some.injEq,Nx.val.injEq] at h
       obtain ⟨rfl,rfl⟩:=h
       obtain ⟨_,hjl,zz,hzz,hzr,hfn,e2,he2,hsk⟩:=hnow
       simp only [Nat.sub_zero] at hzz he2
       have hfind:(Instr.findKey kt (a.eval ix) ents.toList).run P w=.ok (some (j,zz.val)) w:=by
        simp only [Instr.findKey,Sem.run_bind,r_under hdk,Result.andThen_ok];rw [hfn];rfl
       have hej:ents[j]?=some zz:=by simpa using hzz
       obtain ⟨zz',hzz',hk1,hk2⟩:=hmm.2 j e2 he2
       rw [hzz] at hzz';cases hzz'
       have hbits:=sameBits_of hk1 h2 hsk
       have hstay:(Instr.keyThatStays zz.key (a.eval ix)).run P w=.ok (a.eval ix) w:=by simp [Instr.keyThatStays,hbits]
       refine ⟨J,_,Go.undef,Inj.le.refl J,upd (ents.modify j fun e=>{ e with key:=a.eval ix,val:=a.eval vv }) clock _ ?_,Rep.undef,.inr ⟨?_,rfl⟩⟩
       ·refine ⟨by simp [hmm.1],fun i p hp=>?_⟩
        by_cases hij:i=j
        ·subst hij
         rw [List.getElem?_set_self (by omega)] at hp;cases hp
         exact ⟨{ zz with key:=a.eval ix,val:=a.eval vv },by simp [Array.getElem?_modify,hej],h2,h4⟩
        ·rw [List.getElem?_set_ne (fun h=>hij h.symm)] at hp
         obtain ⟨q2,hq2,hr⟩:=hmm.2 i p hp
         refine ⟨q2,?_,hr⟩
         simp only [Array.getElem?_toList,Array.getElem?_modify]
         rw [if_neg (fun h=>hij h.symm)];simpa using hq2
       ·rw [ho]
        simp [e1,Instr.mapUpdate,r_under hd,getObj,Sem.run,hh,hck,hfind,hset,hej,hstay]
    ·cases h
  ·cases hm
 cases ho:o.op<;>simp only [ho,opFits,Bool.false_eq_true] at hf
 ·exact main _ _ _ _ (by simp [execOp,ho]) hf
 ·exact main _ _ _ _ (by simp [execOp,ho]) hf
omit hS hE hG in
theorem fill_put:∀(xs:List Value) (off:Nat) (cells:Array Value) (n:Nat),((xs.zipIdx n).foldl (fun cs (c,j)=>cs.setIfInBounds (off+j) c) cells)=putV cells (off+n) xs
 | [],off,cells,n=>rfl
 | x::xs,off,cells,n=>by
  simp only [List.zipIdx_cons,List.foldl_cons,putV]
  rw [fill_put xs off _ (n+1)];rfl
omit hS in
theorem r_fill {place:Nat→Option (Nat×Nat)}:∀{os:List (Nat×Operand)} {ps:List (Nat×Nat×AX)} {cs cs':List AV} {cells:Array Value},partsFit gl place os ps=true →
  Reps J cs cells.toList→cs.all AV.isCell=true→fillA cs (ps.map fun (o,s,x)=>(o,s,x.ev e))=some cs' →
  ∃cells',Instr.fill place cells (os.map fun (i,x)=>(i,a.eval x))=some cells'∧Reps J cs' cells'.toList∧cs'.all AV.isCell=true∧cells'.size=cells.size
 | [],[],cs,cs',cells,_,hr,hc,h=>by
  simp [fillA] at h;subst h
  exact ⟨cells,rfl,hr,hc,rfl⟩
 | [],_::_,_,_,_,h,_,_,_=>by simp [partsFit] at h
 | _::_,[],_,_,_,h,_,_,_=>by simp [partsFit] at h
 | (i,x)::os,(off,size,y)::ps,cs,cs',cells,hf,hr,hc,h=>by
  simp only [partsFit,Bool.and_eq_true] at hf
  obtain ⟨⟨hp,hx⟩,hf⟩:=hf
  split at hp
  ·rename_i a1 b1 hpl
   simp only [Bool.and_eq_true,beq_iff_eq] at hp
   obtain ⟨rfl,rfl⟩:=hp
   simp only [List.map_cons,fillA] at h
   split at h
   ·rename_i hh
    obtain ⟨h1,h2,h3⟩:=hh
    have hrx:=xFits_rep hE hG hx
    have hcx:=hrx.cells
    have hlx:=hcx.length
    have hlc:=hr.length
    have hput:Reps J (putCells cs a1 (y.ev e).cells) (putV cells a1 (a.eval x).cells.toList).toList:=by
     have:=putCells_reps (J:=J) _ _ _ cells a1 cells.size hcx (by rw [List.take_of_length_le (by simp)];exact hr)
     rwa [List.take_of_length_le (by simp [putV_size])] at this
    obtain ⟨cells',g1,g2,g3,g4⟩:=r_fill hf hput (putCells_isCell _ _ _ hc h3) h
    refine ⟨cells',?_,g2,g3,by rw [g4,putV_size]⟩
    simp only [List.map_cons,Instr.fill,hpl]
    have hs1:(a.eval x).cells.size=b1:=by simp at hlx;omega
    rw [if_neg (by simp at hlc ⊢;omega)]
    have:=fill_put (a.eval x).cells.toList a1 cells 0
    rw [Nat.add_zero] at this
    rw [←g1,←this]
    congr 1
    rw [←Array.foldl_toList,Array.toList_zipIdx]
   ·cases h
  ·cases hp
end
end Go.Proofs.YtgkhmmlemgikjaaGreatDoor.Ai
namespace Go.Proofs.YtgkhmmlemgikjaaGreatDoor.Ai
open Go
section
variable {P:Program} {gl:List (Nat×AV)} {K:Sites} {base:Bs} {J:Inj} {st st':St} {w:World} {a:Act} {e:Env} {o:Oper} {v:AV}
variable (hS:Sim K base J st w) (hE:Reps J e a.tmps.toList) (hG:GlOk gl J)
include hS hE hG
theorem did_build {zero:List AV} {ps:List (Nat×Nat×AX)} (hf:opFits P gl o.op (.build zero ps)=true) (h:opA (.build zero ps) e st=some (.val v st')):Did P K base J (execOp a.eval o) w v st':=by
 cases ho:o.op<;>simp only [ho,opFits,Bool.false_eq_true] at hf
 rename_i t parts
 simp only [Bool.and_eq_true] at hf
 obtain ⟨hz,hf⟩:=hf
 unfold zeroFits at hz
 split at hz
 ·rename_i zv hzv
  simp only [Bool.and_eq_true] at hz
  have hzr:=constFits_rep (J:=J) _ _ hz.1
  simp only [Rep] at hzr
  obtain ⟨arr,rfl,hr,hc⟩:=hzr
  simp only [opA] at h
  cases hfl:fillA zero (ps.map fun (o,s,x)=>(o,s,x.ev e)) with
  | none=>simp [hfl] at h
  | some cs =>
   simp only [hfl,Option.map_some,Option.some.injEq,Nx.val.injEq] at h
   obtain ⟨rfl,rfl⟩:=h
   split at hf
   ·rename_i fs hd
    simp only [Bool.and_eq_true] at hf
    obtain ⟨hp,hall⟩:=hf
    obtain ⟨cells',g1,g2,g3,_⟩:=r_fill hE hG hp hr hc hfl
    refine Did.same hS (x:=.agg cells') (by simp only [Rep];exact ⟨_,rfl,g2,g3⟩) ?_
    -- the places
    have hpl:∀(l:List Field),(∀f∈l,(sizeT P f.type).isSome=true)→((l.mapM fun f=>do pure (f.offset,←sizeOf f.type):Sem (List (Nat×Nat)))).run P w=.ok (l.map fun f=>(f.offset,(sizeT P f.type).getD 0)) w:=by
     intro l
     induction l with
     | nil=>intro _;simp
     | cons f l ih =>
      intro hl
      obtain ⟨s,hs⟩:=Option.isSome_iff_exists.1 (hl f (by simp))
      have:=ih (fun f hf=>hl f (by simp [hf]))
      simp only [List.mapM_cons,Sem.run_bind,r_size hs,Result.andThen_ok,Sem.run_pure,List.map_cons,hs,Option.getD_some]
      rw [this];rfl
    have hpl':=hpl fs.toList (fun f hf=>by
     rw [Array.all_eq_true'] at hall;exact hall f (Array.mem_toList_iff.1 hf))
    have hm:(fs.mapM fun f=>do pure (f.offset,←sizeOf f.type):Sem (Array (Nat×Nat))).run P w=.ok (fs.toList.map fun f=>(f.offset,(sizeT P f.type).getD 0)).toArray w:=by
     rw [Array.mapM_eq_mapM_toList,Sem.run_map,hpl'];rfl
    have hplace:(fun (i:Nat)=>(fs.toList.map fun (f:Field)=>(f.offset,(sizeT P f.type).getD 0)).toArray[i]?)=fun i=>(fs[i]?).bind fun (f:Field)=>(sizeT P f.type).map fun s=>(f.offset,s):=by
     funext i
     simp only [List.getElem?_toArray,List.getElem?_map,Array.getElem?_toList]
     cases hfi:fs[i]? with
     | none=>rfl
     | some f =>
      rw [Array.all_eq_true'] at hall
      obtain ⟨s,hs⟩:=Option.isSome_iff_exists.1 (hall f (Array.mem_of_getElem? hfi))
      simp [hs]
    simp only [execOp,ho,Instr.build,Sem.run_bind,r_zero hzv,Result.andThen_ok,r_under hd,hm]
    have hpe:(parts.map fun (i,x)=>(i,a.eval x)).toList=parts.toList.map fun (i,x)=>(i,a.eval x):=by simp
    rw [hplace,hpe]
    simp [Value.cells,g1]
   ·rename_i n el hd
    split at hf
    ·rename_i s hs
     obtain ⟨cells',g1,g2,g3,_⟩:=r_fill hE hG hf hr hc hfl
     refine Did.same hS (x:=.agg cells') (by simp only [Rep];exact ⟨_,rfl,g2,g3⟩) ?_
     have hpe:(parts.map fun (i,x)=>(i,a.eval x)).toList=parts.toList.map fun (i,x)=>(i,a.eval x):=by simp
     simp only [execOp,ho,Instr.build,Sem.run_bind,r_zero hzv,Result.andThen_ok,r_under hd,r_size hs]
     rw [hpe]
     simp [Value.cells,g1]
    ·cases hf
   ·cases hf
 ·cases hz
theorem did_mkLit {m:Nat} {zero:List AV} {ps:List (Nat×Nat×AX)} {mu:Bool} (hf:opFits P gl o.op (.mkLit m zero ps mu)=true) (h:opA (.mkLit m zero ps mu) e st=some (.val v st')) :
  Did P K base J (execOp a.eval o) w v st':=by
 cases ho:o.op<;>simp only [ho,opFits,Bool.false_eq_true] at hf
 rename_i t len parts
 simp only [Bool.and_eq_true,decide_eq_true_eq,beq_iff_eq] at hf
 obtain ⟨⟨⟨⟨⟨hel,hbig⟩,hzl⟩,hzc⟩,hz⟩,hp⟩:=hf
 obtain ⟨el,hd,hsize,hm,hagg⟩:=elemFits_iff hel
 rw [hd] at hz
 simp only [] at hz
 split at hz
 ·rename_i zv hzv
  have hzr:=constsFit_reps (J:=J) _ _ hz
  simp only [opA] at h
  cases hfl:fillA zero (ps.map fun (o,s,x)=>(o,s,x.ev e)) with
  | none=>simp [hfl] at h
  | some cs =>
   obtain ⟨cells',g1,g2,g3,g4⟩:=r_fill hE hG hp hzr hzc hfl
   have hcl:cells'.size=len * m:=by rw [g4];simp
   have hcs:cs.length=len * m:=by rw [g2.length];simp [hcl]
   have hdiv:len * m / m=len:=Nat.mul_div_cancel _ (by omega)
   have hrun:(execOp a.eval o).run P w=.ok (.value (.slice (some ⟨w.heap.size,0,none⟩) len len)) { w with heap:=w.heap.push (.cells cells' el) }:=by
    have hpe:(parts.map fun (i,x)=>(i,a.eval x)).toList=parts.toList.map fun (i,x)=>(i,a.eval x):=by simp
    simp only [execOp,ho,Instr.buildSlice,Sem.run_bind,r_under hd,r_size hsize,Result.andThen_ok]
    rw [if_neg (by omega)]
    by_cases h0:len * m=0
    ·have hlen0:len=0:=by rcases Nat.mul_eq_zero.1 h0 with h | h<;>omega
     subst hlen0
     have hrn:∀f:Nat→Value,(Array.range (0 * m)).map f=#[]:=by intro f;apply Array.eq_empty_of_size_eq_zero;simp
     rw [hrn] at g1
     rw [hpe,if_pos (Nat.zero_mul m)]
     simp only [pure_bind]
     rw [hrn,g1]
     simp [newRow]
    ·simp only [h0,if_false,Sem.run_bind,r_zero hzv,Result.andThen_ok,Sem.run_pure]
     rw [hpe]
     rw [g1]
     simp [newRow]
   simp only [hfl,Option.map_some,Option.some.injEq] at h
   cases mu with
   | true =>
    simp only [if_true,Nx.val.injEq] at h
    obtain ⟨rfl,rfl⟩:=h
    refine Did.of (hS.bind_le _ cells'.size) (hS.add (.cells cells' el) (.cells none cs) rfl (by simp) ?_) ?_ hrun
    ·refine ⟨w.heap.size,cells',el,by simp [Inj.bind],⟨(0,0),by simp,Clear.zero _⟩,by omega,?_,g3,(fun _ hT=>by cases hT),cells'.size,by simp [Inj.bind],by omega,Nat.le_refl _⟩
     rw [List.take_of_length_le (by simp;omega)]
     exact Reps.mono (hS.bind_le _ _) _ _ g2
    ·rw [hcs,hdiv]
     simp only [Rep]
     exact ⟨w.heap.size,len,by simp [Inj.bind],rfl,Nat.le_refl _,(fun k e=>by cases e;rfl),cells'.size,by simp [Inj.bind],by omega⟩
   | false =>
    simp only [Bool.false_eq_true,if_false,Nx.val.injEq] at h
    obtain ⟨rfl,rfl⟩:=h
    refine Did.of (hS.stay_le cells') (hS.addStill cells' el (0,0)) ?_ hrun
    rw [hcs,hdiv]
    simp only [Rep]
    have hgl:=group_length m (m != 1) len cs
    refine ⟨fun id e=>(by cases e),.inr ⟨⟨w.heap.size,0,none⟩,len,by rw [hgl],fun _=>rfl,by rw [hgl];exact Nat.le_refl _,fun _=>hgl.symm,?_⟩⟩
    have hck:=Chunks.of_group (J:=J) (m:=m) (agg:=m != 1) (by simp) len g2 g3 (by omega)
    refine Elems.of_chunks (hck.mono (hS.stay_le cells')) (fun i v hv=>?_)
    rw [List.getElem?_take] at hv
    split at hv
    ·show (if w.heap.size=w.heap.size then cells'[0+i]? else _)=some v
     rw [if_pos rfl,Nat.zero_add];simpa using hv
    ·cases hv
 ·cases hz
theorem did_mkSlice {m bytes:Nat} {zero:List AV} {y z:AX} {tok:Bool} (hf:opFits P gl o.op (.mkSlice m bytes zero y z tok)=true) (h:opA (.mkSlice m bytes zero y z tok) e st=some (.val v st')) :
  Did P K base J (execOp a.eval o) w v st':=by
 cases ho:o.op<;>simp only [ho,opFits,Bool.false_eq_true] at hf
 rename_i t l c
 simp only [Bool.and_eq_true,beq_iff_eq] at hf
 obtain ⟨⟨⟨⟨⟨⟨hel,hby⟩,hz⟩,hzl⟩,hzc⟩,hx⟩,hu⟩:=hf
 obtain ⟨el,hd,hsize,hm,hagg⟩:=elemFits_iff hel
 obtain ⟨inf,hinf⟩:∃inf,P.info? el=some inf:=by
  unfold sizeT at hsize
  cases hi:P.info? el with
  | none=>simp [hi] at hsize
  | some i=>exact ⟨i,rfl⟩
 have hbytes:inf.bytes=bytes:=by simpa [elemBytes,hd,hinf] using hby
 rw [hd] at hz
 simp only [zeroFits] at hz
 split at hz
 ·rename_i zv hzv
  simp only [Bool.and_eq_true] at hz
  have hzr:=(constFits_rep (J:=J) _ _ hz.1).cells
  have hzcells:(if (m != 1)=true then AV.agg zero else zero.headD .undef).cells=zero:=by
   cases hm1:(m != 1) with
   | true=>rfl
   | false =>
    simp at hm1
    match zero,hzl,hzc with
    | [u],_,hc =>
     simp at hc
     cases u<;>simp_all [AV.cells,AV.isCell]
    | [],hl,_=>simp at hl;omega
    | _::_::_,hl,_=>simp at hl;omega
  rw [hzcells] at hzr
  have hzsz:zv.cells.size=m:=by have:=hzr.length;simp at this;omega
  have h1:=xFits_rep hE hG hx
  have h2:=xFits_rep hE hG hu
  simp only [opA] at h
  cases ha1:aInt (y.ev e) with
  | none=>simp [ha1] at h
  | some l' =>
   cases ha2:aInt (z.ev e) with
   | none=>simp [ha1,ha2] at h
   | some c' =>
    obtain ⟨k1,hk1⟩:=aInt_rep h1 ha1
    obtain ⟨k2,hk2⟩:=aInt_rep h2 ha2
    simp only [ha1,ha2] at h
    split at h
    ·rename_i hh
     obtain ⟨hl0,hlc,hgr,hb1,_⟩:=hh
     have hgr':c'≤274877906944:=hgr
     have hw:∀i:Int,0≤i→i≤c'→IntKind.i64.wrap i=i:=by
      intro i h0 h1
      simp only [IntKind.wrap,IntKind.signed,IntKind.bits]
      have:i % 2 ^ 64=i:=Int.emod_eq_of_lt h0 (by omega)
      simp only [this]
      rw [if_neg (by simp;omega)]
     have hb2:bytes * c'≤1024 * 274877906944:=by
      have:(bytes:Int)≤1024:=by omega
      calc (bytes:Int) * c'≤1024 * c':=Int.mul_le_mul_of_nonneg_right this (by omega)
       _≤1024 * 274877906944:=Int.mul_le_mul_of_nonneg_left hgr' (by omega)
     obtain ⟨L,rfl⟩:=Int.eq_ofNat_of_zero_le hl0
     obtain ⟨C,rfl⟩:=Int.eq_ofNat_of_zero_le (by omega:0≤c')
     have hcellsEq:(if C * m=0 then (#[]:Array Value) else zv.cells)=zv.cells∨C=0:=by
      by_cases h0:C * m=0
      ·right;rcases Nat.mul_eq_zero.1 h0 with h | h<;>omega
      ·left;rw [if_neg h0]
     have hrun:(execOp a.eval o).run P w=.ok (.value (.slice (some ⟨w.heap.size,0,none⟩) L C)) { w with heap:=w.heap.push (.cells ((List.replicate C zv.cells.toList).flatten).toArray el) }:=by
      have e1:=hw L (by omega) (by omega)
      have e2:=hw C (by omega) (by omega)
      have n1:¬((C:Int)<0):=by omega
      have n2:¬((L:Int)<0):=by omega
      have n3:¬(2 ^ 48<(bytes:Int) * C):=by omega
      have n4:¬((C:Int)<L):=by omega
      have hrf:=range_flat zv.cells m hzsz hm C
      have n3':¬(281474976710656<(bytes:Int) * C):=n3
      by_cases h0:C * m=0
      ·have hC:C=0:=by rcases Nat.mul_eq_zero.1 h0 with h | h<;>omega
       simp [execOp,ho,Instr.makeSlice,r_under hd,hk1,hk2,asInt,asIntOf,r_info hinf,hbytes,e1,e2,n1,n2,n3',n4,r_size hsize,newRow,h0]
       have hrn:∀f:Nat→Value,(Array.range 0).map f=#[]:=by intro f;apply Array.eq_empty_of_size_eq_zero;simp
       rw [hrn]
       simp [hC]
      ·rw [←hrf]
       simp [execOp,ho,Instr.makeSlice,r_under hd,hk1,hk2,asInt,asIntOf,r_info hinf,hbytes,e1,e2,n1,n2,n3',n4,r_size hsize,r_zero hzv,newRow,h0]
     have hzl':∀n,((List.replicate n zv.cells.toList).flatten).length=n * m:=by intro n;simp [hzsz]
     have hreps:∀n,Reps J ((List.replicate n zero).flatten) ((List.replicate n zv.cells.toList).flatten):=by
      intro n
      induction n with
      | zero=>simp [Reps]
      | succ n ih=>rw [List.replicate_succ,List.replicate_succ,List.flatten_cons,List.flatten_cons];exact hzr.append ih
     have hcell:∀n,((List.replicate n zero).flatten).all AV.isCell=true:=by
      intro n
      induction n with
      | zero=>simp
      | succ n ih=>rw [List.replicate_succ,List.flatten_cons,List.all_append,hzc,ih];rfl
     cases tok with
     | true =>
      simp only [if_true] at h
      split at h
      ·rename_i hl0
       simp only [Option.some.injEq,Nx.val.injEq] at h
       obtain ⟨rfl,rfl⟩:=h
       have hL:L=0:=by omega
       subst hL
       by_cases hC:C=0
       ·subst hC
        obtain ⟨hle,hs⟩:=(hS.push (.cells ((List.replicate 0 zv.cells.toList).flatten).toArray el)).tokAdd0 m (some ⟨w.heap.size,0,none⟩)
        refine Did.of hle hs ?_ hrun
        simp only [Rep]
        refine ⟨fun id e=>(by cases e;simp [Inj.tokNil]),.inr ⟨⟨w.heap.size,0,none⟩,0,rfl,fun _=>rfl,Nat.le_refl _,fun e=>(by cases e),by simp [Elems]⟩⟩
       ·have:=r_appendNew (id:=st.length) (m:=m) (need:=0) (ys:=[]) (xs:=[]) (cap':=C) (t:=el) (rest:=(List.replicate C zv.cells.toList).flatten) (w1:=w) (ty:=none) hS.addDead (ob:=.dead) (by simp) (fun _ hT=>by cases hT)
         (.inl ⟨rfl,fun k v e=>by rw [hS.τnew] at e;cases e⟩) rfl rfl rfl (by simp [Chunks]) rfl (by omega) (Nat.zero_le _) (by rw [hzl'];simp)
        obtain ⟨hle,hsim,hrep⟩:=this
        simp only [List.nil_append] at hsim hle hrep
        refine Did.of hle (by simpa using hsim) hrep hrun
      ·cases h
     | false =>
      simp only [Bool.false_eq_true,if_false] at h
      split at h
      ·rename_i hlc
       simp only [Option.some.injEq,Nx.val.injEq] at h
       obtain ⟨rfl,rfl⟩:=h
       have hLC:L=C:=by omega
       subst hLC
       refine Did.of (hS.bind_le _ ((List.replicate L zv.cells.toList).flatten).toArray.size) (hS.add (.cells ((List.replicate L zv.cells.toList).flatten).toArray el) (.cells none ((List.replicate L zero).flatten)) rfl (by simp) ?_) ?_ hrun
       ·refine ⟨w.heap.size,((List.replicate L zv.cells.toList).flatten).toArray,el,by simp [Inj.bind],⟨(0,0),by simp,Clear.zero _⟩,?_,?_,hcell L,(fun _ hT=>by cases hT),((List.replicate L zv.cells.toList).flatten).toArray.size,by simp [Inj.bind],?_,Nat.le_refl _⟩
        ·have:=(hreps L).length;simp at this ⊢;omega
        ·have hl:=(hreps L).length
         rw [List.take_of_length_le (by simp only [List.toList_toArray];omega)]
         exact Reps.mono (hS.bind_le _ _) _ _ (hreps L)
        ·have:=(hreps L).length;simp only [List.size_toArray];omega
       ·simp only [Rep]
        exact ⟨w.heap.size,L,by simp [Inj.bind],by simp,by simp,(fun k e=>by cases e;simp),((List.replicate L zv.cells.toList).flatten).toArray.size,by simp [Inj.bind],by have:=hzl' L;simp only [List.size_toArray,this,Nat.zero_add];exact Nat.le_refl _⟩
      ·cases h
    ·cases h
 ·cases hz
end
end Go.Proofs.YtgkhmmlemgikjaaGreatDoor.Ai
namespace Go.Proofs.YtgkhmmlemgikjaaGreatDoor.Ai
open Go
section
variable {K:Sites} {base:Bs} {J:Inj} {st:St} {w:World}
theorem Sim.kill (h:Sim K base J st w) (r:Nat):Sim K base J (st.set r .dead) w:=by
 have hget:∀(i:Nat) x,(st.set r AObj.dead)[i]?=some x→(i≠r∧st[i]?=some x)∨x=.dead:=by
  intro i x e
  by_cases hi:i=r
  ·subst hi
   by_cases hl:i<st.length
   ·rw [List.getElem?_set_self hl] at e;cases e;exact .inr rfl
   ·rw [List.getElem?_eq_none (by simp;omega)] at e;cases e
  ·rw [List.getElem?_set_ne (fun h=>hi h.symm)] at e;exact .inl ⟨hi,e⟩
 refine ⟨h.os,h.output,h.size,h.old,h.imOk,fun i b e=>by simpa using h.ρlt i b e,fun i n v e=>?_,fun i x e=>?_,fun i x b e e'=>?_,fun i x b e e' hx=>?_,fun b hb=>?_⟩
 ·obtain ⟨h1,h2⟩:=h.τlt i n v e
  refine ⟨by simpa using h1,fun m l ty e'=>?_⟩
  rcases hget i _ e' with ⟨_,e'⟩ | e'
  ·exact h2 m l ty e'
  ·cases e'
 ·rcases hget i x e with ⟨_,e⟩ | rfl
  ·exact h.obj i x e
  ·trivial
 ·rcases hget i x e with ⟨_,e⟩ | rfl
  ·obtain ⟨h1,h2,h3⟩:=h.own i x b e e'
   refine ⟨h1,h2,fun i' x' e3 e4=>?_⟩
   rcases hget i' x' e3 with ⟨_,e3⟩ | rfl
   ·exact h3 i' x' e3 e4
   ·cases e4
  ·cases e'
 ·rcases hget i x e with ⟨_,e⟩ | rfl
  ·exact h.noIm i x b e e' hx
  ·cases e'
 ·obtain ⟨h1,h2,h3,h4⟩:=h.hid b hb
  refine ⟨h1,h2,h3,fun i x e e'=>?_⟩
  rcases hget i x e with ⟨_,e⟩ | rfl
  ·exact h4 i x e e'
  ·cases e'
theorem Sim.adopt (h:Sim K base J st w) {b n:Nat} {w':World} {a:AObj} (ha:a.isTok=false) (hd:a≠.dead) (hb:base.heap.size≤b) (hnh:¬base.hid b) (hbl:b<w.heap.size)
  (hfree:∀(r:Nat) o,st[r]?=some o→ownB J r o≠some b) (him:∀k v,J.im b k≠some v) (hos:w'.os=w.os) (hout:w'.output=w.output) (hsz:w'.heap.size=w.heap.size)
  (hoth:∀b',b'≠b→w'.heap[b']?=w.heap[b']?) (hobj:ObjSim K (J.bind st.length b n) w' st.length a):Sim K base (J.bind st.length b n) (st++[a]) w':=by
 have hle:=h.bind_le b n
 have hown:ownB (J.bind st.length b n) st.length a=some b:=by
  obtain ⟨b',h1,h2⟩:=hobj.own ha hd
  rw [h2,←h1];simp [Inj.bind]
 have hget:∀(r:Nat) x,(st++[a])[r]?=some x→(r<st.length∧st[r]?=some x)∨(r=st.length∧x=a):=by
  intro r x e
  rcases Nat.lt_trichotomy r st.length with hr | hr | hr
  ·rw [List.getElem?_append_left hr] at e;exact .inl ⟨hr,e⟩
  ·subst hr;simp at e;exact .inr ⟨rfl,e.symm⟩
  ·rw [List.getElem?_eq_none (by simp;omega)] at e;cases e
 have hu:∀(r':Nat) x' b',r'<st.length→st[r']?=some x'→ownB (J.bind st.length b n) r' x'=some b'→ownB J r' x'=some b':=by
  intro r' x' b' hr' e1 e2
  rwa [ownB_bind (by omega)] at e2
 refine ⟨hos.trans h.os,hout.trans h.output,hsz▸h.size,fun b' hb'=>?_,fun b' k v e=>?_,fun r b' e=>?_,fun i k v e=>?_,fun r x e=>?_,fun r x b' e e'=>?_,fun r x b' e e' ht=>?_,fun b' hb'=>?_⟩
 ·rw [hoth b' (by omega)];exact h.old b' hb'
 ·by_cases hbb:b'=b
  ·subst hbb;exact absurd e (him k v)
  ·rw [cell_congr (hoth b' hbb)];exact h.imOk b' k v e
 ·by_cases hr:r=st.length
  ·subst hr;simp [Inj.bind] at e;subst e;exact ⟨by simp,by omega⟩
  ·simp [Inj.bind,hr] at e;have:=h.ρlt r b' e;exact ⟨by simp;omega,by omega⟩
 ·obtain ⟨h1,h2⟩:=h.τlt i k v e
  refine ⟨by simp;omega,fun m l ty' e'=>h2 m l ty' ?_⟩
  rwa [List.getElem?_append_left h1] at e'
 ·rcases hget r x e with ⟨hr,e⟩ | ⟨rfl,rfl⟩
  ·exact (h.obj r x e).frame hle (fun b' hb'=>hoth b' (by rintro rfl;exact hfree r x e hb')) (fun _ _ _ _ _ h=>h)
  ·exact hobj
 ·rcases hget r x e with ⟨hr,e5⟩ | ⟨rfl,rfl⟩
  ·have e2:=hu r x b' hr e5 e'
   obtain ⟨h1,h2,h3⟩:=h.own r x b' e5 e2
   refine ⟨h1,by omega,fun r' x' e3 e4=>?_⟩
   rcases hget r' x' e3 with ⟨hr',e3⟩ | ⟨rfl,rfl⟩
   ·exact h3 r' x' e3 (hu r' x' b' hr' e3 e4)
   ·rw [hown] at e4;cases e4;exact absurd e2 (hfree r x e5)
  ·rw [hown] at e';cases e'
   refine ⟨hb,by omega,fun r' x' e3 e4=>?_⟩
   rcases hget r' x' e3 with ⟨hr',e3⟩ | ⟨rfl,_⟩
   ·exact absurd (hu r' x' b hr' e3 e4) (hfree r' x' e3)
   ·rfl
 ·rcases hget r x e with ⟨hr,e⟩ | ⟨rfl,rfl⟩
  ·exact h.noIm r x b' e (hu r x b' hr e e') ht
  ·rw [hown] at e';cases e';exact him
 ·obtain ⟨f1,f2,f3,f4⟩:=h.hid b' hb'
  have hne:b'≠b:=by rintro rfl;exact hnh hb'
  refine ⟨by omega,(hoth b' hne).trans f2,f3,fun r x e e'=>?_⟩
  rcases hget r x e with ⟨hr,e⟩ | ⟨rfl,rfl⟩
  ·exact f4 r x e (hu r x b' hr e e')
  ·rw [hown] at e';cases e';exact hne rfl
end
section
variable {P:Program} {gl:List (Nat×AV)} {K:Sites} {base:Bs} {J:Inj} {st st':St} {w:World} {a:Act} {e:Env} {o:Oper} {v:AV}
variable (hS:Sim K base J st w) (hE:Reps J e a.tmps.toList) (hG:GlOk gl J)
include hS hE hG
theorem did_appendM {m bytes:Nat} {y z:AX} (hf:opFits P gl o.op (.appendM m bytes y z)=true) (h:opA (.appendM m bytes y z) e st=some (.val v st')):Did P K base J (execOp a.eval o) w v st':=by
 simp only [opFits] at hf
 split at hf
 ·rename_i x u t t2 ho
  simp only [Bool.and_eq_true,beq_iff_eq] at hf
  obtain ⟨⟨⟨⟨⟨hel,hzo⟩,hby⟩,hint⟩,hx⟩,hu⟩:=hf
  obtain ⟨el,hd,hsize,hm,_⟩:=elemFits_iff hel
  obtain ⟨d2,hd2,hint⟩:=isK_some hint
  obtain ⟨inf,hinf,hinfs⟩:∃inf,P.info? el=some inf∧inf.size=m:=by
   unfold sizeT at hsize
   cases hi:P.info? el with
   | none=>simp [hi] at hsize
   | some i=>simp [hi] at hsize;exact ⟨i,rfl,hsize⟩
  have hbytes:inf.bytes=bytes:=by simpa [elemBytes,hd,hinf] using hby
  obtain ⟨zv,hzv,hzsz⟩:∃zv,inf.zero=some zv∧zv.cells.size=inf.size:=by
   unfold zeroOk at hzo
   rw [hd] at hzo
   simp only [hinf] at hzo
   split at hzo
   ·rename_i z hz;exact ⟨z,hz,by simpa using hzo⟩
   ·cases hzo
  have h1:=xFits_rep hE hG hx
  have h2:=xFits_rep hE hG hu
  have hi2:∀k,d2≠.int k:=by intro k hk;subst hk;simp at hint
  simp only [opA] at h
  cases hys:elemsOf st m (z.ev e) with
  | none=>simp [hys] at h
  | some ys =>
   obtain ⟨xs,hck,hrun⟩:=r_elems (P:=P) hm hS h2 hys
   have hxl:=hck.length
   have hlen:=(hrun w rfl).1
   simp only [hys,Option.bind_some] at h
   replace h1:=h1.asLst (m:=m)
   -- a new row,behind what is given up
   have new:∀(st0:St) (base':Option Addr) (n cap:Nat) (ocs:List AV) (oxs:List Value),Sim K base J st0 w→a.eval x=.slice base' n cap→cap<n+ys.length→n+ys.length≤great→bytes≤256→n≤cap →
     Reps J ocs oxs→ocs.all AV.isCell=true→oxs.length=n * m →
     (∀w',w'.heap=w.heap→(Builtin.firstCells m n (.slice base' n cap)).run P w'=.ok oxs.toArray w') →
     v=.sl st0.length m 0 (n+ys.length) none→st'=st0++[.cells none (ocs++flat ys)]→Did P K base J (execOp a.eval o) w v st':=by
    intro st0 base' n cap ocs oxs hS0 e1 hlt hgr hb256 hcap hor hocell hol holdrun hv hst'
    subst hv hst'
    have hres:=cap_bound hlt hgr hb256
    let q:=Question.appendCap (n+ys.length) cap el
    let w1:World:={ w with drawn:=w.drawn+1 }
    let newCap:=q.cut (w.tape w.drawn q)
    have hnew:n+ys.length≤newCap:=by show _≤_+_;omega
    let rest:=(Builtin.zeroCells zv.cells (newCap-(n+ys.length))).toList
    have hrest:rest.length=(newCap-(n+ys.length)) * m:=by simp [rest,Builtin.zeroCells,hzsz,hinfs]
    let c:Array Value:=(oxs++xs++rest).toArray
    have hmul:(n+ys.length) * m=n * m+ys.length * m:=Nat.add_mul _ _ _
    have hcs:c.size=newCap * m:=by
     simp only [c,List.size_toArray,List.length_append,hol,hxl,hrest]
     rw [←hmul,←Nat.add_mul];congr 1;omega
    have hfl:(flat ys).length=xs.length:=hck.reps.length
    have hocl:ocs.length=oxs.length:=hor.length
    have hcle:(ocs++flat ys).length≤c.size:=by
     rw [hcs,List.length_append,hocl,hfl,hol,hxl,←hmul];exact Nat.mul_le_mul_right _ hnew
    have hS1:Sim K base J st0 w1:=hS0.same rfl rfl rfl
    have hadd:=hS1.add (n:=c.size) (.cells c el (0,0)) (.cells none (ocs++flat ys)) rfl (by simp) (by
     refine ⟨w.heap.size,c,el,by simp [Inj.bind,w1],⟨(0,0),by simp [w1],Clear.zero _⟩,hcle,?_,?_,(fun _ hT=>by cases hT),c.size,by simp [Inj.bind],hcle,Nat.le_refl _⟩
     ·have:(oxs++xs++rest).take (ocs++flat ys).length=oxs++xs:=by
       rw [List.take_append_of_le_length (by simp;omega),List.take_of_length_le (by simp;omega)]
      simp only [c,this]
      exact Reps.mono (hS1.bind_le _ _) _ _ (hor.append hck.reps)
     ·rw [List.all_append,hocell,hck.isCell];rfl)
    refine Did.of (hS1.bind_le _ c.size) hadd (x:=.slice (some ⟨w.heap.size,0,none⟩) (n+ys.length) newCap) ?_ ?_
    ·simp only [Rep]
     exact ⟨w.heap.size,newCap,by simp [Inj.bind,w1],rfl,hnew,(fun k e=>by cases e),c.size,by simp [Inj.bind],by rw [hcs];omega⟩
    ·have hnle:¬(n+ys.length≤cap):=by omega
     have hmax:¬(IntKind.i64.max<((n:Int)+(ys.length:Int))):=by
      unfold great at hgr
      simp [IntKind.max,IntKind.signed,IntKind.bits];omega
     have hfirst:=(hrun w1 rfl).2 ys.length (Nat.le_refl _)
     rw [List.take_of_length_le (by omega)] at hfirst
     have hzr:(zeroValue el).run P w1=.ok zv w1:=r_zero (by simp [hinf,hzv])
     refine r_builtin ho (fun cs=>?_)
     have hres':¬(2 ^ 48<Builtin.nextslicecap (n+ys.length) cap * bytes):=hres
     simp only [builtin,Sem.run_bind]
     simp only [List.map_toArray,List.map_cons,List.map_nil]
     rw [e1,r_append_zero hd hsize hd2 hi2 hlen,if_neg hnle]
     simp only [Sem.run_bind,r_info hinf,hbytes,hres',hmax,Result.andThen_ok,Sem.run_pure,false_and,if_false,run_choose,run_askRoom,gt_iff_lt]
     rw [if_neg (fun h=>hmax (by simpa using h.1))]
     simp only [Sem.run_bind,r_info hinf,hbytes,hres',Result.andThen_ok,Sem.run_pure,if_false,run_choose,run_askRoom]
     rw [if_neg (by simp [Question.forced])]
     simp only [Result.andThen_ok]
     rw [holdrun w1 rfl]
     simp only [Result.andThen_ok]
     rw [hfirst]
     simp only [Result.andThen_ok]
     rw [hzr]
     simp [newRow,rest,newCap,q,w1,c]
     congr 2
     apply Array.toList_inj.1
     simp
   -- nothing is appended
   have stay:∀(base':Option Addr) (n cap:Nat),n+ys.length≤cap→a.eval x=.slice base' n cap→(∀ad,base'=some ad→ys=[]→True)→ys=[]→(execOp a.eval o).run P w=.ok (.value (.slice base' n cap)) w:=by
    intro base' n cap hle e1 _ hy0
    subst hy0
    have hx0:xs=[]:=by simpa [Chunks] using hck
    subst hx0
    have hfirst:=(hrun w rfl).2 0 (Nat.le_refl _)
    simp at hfirst
    refine r_builtin ho (fun cs=>?_)
    simp only [builtin,Sem.run_bind]
    simp only [List.map_toArray,List.map_cons,List.map_nil]
    rw [e1,r_append_zero hd hsize hd2 hi2 hlen,if_pos hle]
    simp only [List.length_nil,Nat.add_zero]
    rw [hfirst]
    cases base'<;>simp [storeCells]
   cases hy:(y.ev e).asLst m<;>simp only [hy] at h<;>try (cases h;done)
   ·rename_i m' es ap
    cases es with
    | cons _ _=>simp at h
    | nil =>
    cases ap<;>simp only [] at h<;>try (cases h;done)
    rw [hy] at h1
    split at h
    ·rename_i hh
     obtain ⟨hgr,hb256⟩:=hh
     split at h
     ·rename_i hne
      simp only [Option.some.injEq,Nx.val.injEq] at h
      obtain ⟨rfl,rfl⟩:=h
      subst hne
      simp only [Rep] at h1
      rcases h1.2 with ⟨e1,_⟩ | ⟨ad,cap,e1,hsp,_,ht,_⟩
      ·refine Did.same hS (x:=.slice none 0 0) (by simp [Rep]) ?_
       rw [stay none 0 0 (by simp) e1 (fun _ h=>by cases h) rfl]
      ·have:=ht trivial
       simp only [List.length_nil] at this e1
       subst this
       refine Did.same hS (x:=.slice (some ad) 0 0) ?_ ?_
       ·simp only [Rep];exact ⟨fun id e=>(by cases e),.inr ⟨ad,0,rfl,fun h=>absurd h (Nat.lt_irrefl _),Nat.le_refl _,fun _=>rfl,by simp [Elems]⟩⟩
       ·rw [stay (some ad) 0 0 (by simp) e1 (fun _ _=>by simp) rfl]
     rename_i hne
     simp only [Option.some.injEq,Nx.val.injEq] at h
     obtain ⟨rfl,rfl⟩:=h
     simp only [Rep] at h1
     have hpos:0<ys.length:=List.length_pos_iff.2 hne
     rcases h1.2 with ⟨e1,_⟩ | ⟨ad,cap,e1,_,_,ht,_⟩
     ·exact new st none 0 0 [] [] hS e1 (by omega) (by omega) hb256 (Nat.le_refl _) (by simp [Reps]) rfl (by simp) (fun w' _=>by simp [Builtin.firstCells]) (by simp) (by simp)
     ·have:=ht trivial
      simp only [List.length_nil] at this e1
      subst this
      exact new st (some ad) 0 0 [] [] hS e1 (by omega) (by omega) hb256 (Nat.le_refl _) (by simp [Reps]) rfl (by simp) (fun w' _=>by simp [Builtin.firstCells,loadCells,loadCellsFrom]) (by simp) (by simp)
    ·cases h
   ·rename_i r m' off n cp
    rw [hy] at h1
    cases off with
    | succ _=>simp at h
    | zero =>
    simp only [] at h
    cases hst:st[r]? with
    | none=>simp [hst] at h
    | some ob =>
    cases ob<;>simp only [hst] at h<;>try (cases h;done)
    rename_i ty0 cs
    split at h
    ·rename_i hh
     obtain ⟨rfl,hcl,hgr,hb256⟩:=hh
     split at h
     ·rename_i hne
      simp only [Option.some.injEq,Nx.val.injEq] at h
      obtain ⟨rfl,rfl⟩:=h
      subst hne
      have h1':=h1
      simp only [Rep] at h1
      obtain ⟨b,cap,hb,e1,hnc,_⟩:=h1
      refine Did.same hS (x:=a.eval x) h1' ?_
      rw [stay _ n cap (by simpa using hnc) e1 (fun _ _=>by simp) rfl,e1]
     rename_i hne
     simp only [Option.some.injEq,Nx.val.injEq] at h
     obtain ⟨rfl,rfl⟩:=h
     simp only [Rep] at h1
     obtain ⟨b,cap,hb,e1,hnc,_,sn,hsn,hsl⟩:=h1
     obtain ⟨b',cc,tt,q1,⟨fr,q2,qfr⟩,q3,q4,q5,qty,sn',hsn',hs1,hs2⟩:=hS.obj r _ hst
     rw [hb] at q1;cases q1
     rw [hsn] at hsn';cases hsn'
     have hpos:0<ys.length:=List.length_pos_iff.2 hne
     have hown:ownB J r (.cells ty0 cs)=some b:=hb
     obtain ⟨o1,o2,o3⟩:=hS.own r _ b hst hown
     have hrl:=(List.getElem?_eq_some_iff.1 hst).1
     by_cases hlt:cap<n+ys.length
     ·refine new (st.set r .dead) (some ⟨b,0,none⟩) n cap cs (cc.toList.take cs.length) (hS.kill r) e1 hlt hgr hb256 hnc q4 q5 (by simp;omega) (fun w' hw=>?_) (by simp) rfl
      simp only [Builtin.firstCells]
      have:=run_cellsOf (P:=P) (w:=w') (b:=b) (off:=0) (xs:=cc.toList.take cs.length) (fun j v e=>by
       rw [cell_congr (w:=w) (by rw [hw]),cell_of_heap q2]
       simp only [Nat.zero_add]
       rw [List.getElem?_take] at e
       split at e
       ·simpa using e
       ·cases e) (n * m') (by simp;omega)
      rw [this,List.take_take,hcl,Nat.min_self]
     ·have hcap:n+ys.length≤cap:=by omega
      have hmul:(n+ys.length) * m'=n * m'+ys.length * m':=Nat.add_mul _ _ _
      have hcm:(n+ys.length) * m'≤cap * m':=Nat.mul_le_mul_right _ hcap
      obtain ⟨w',g1,g2,g3,g4,g5,g6⟩:=run_storeCells P ⟨b,n * m',none⟩ rfl tt fr xs w 0 cc q2 qfr (by simp only [Nat.add_zero];omega) (hck.reps.oneCells hck.isCell)
      simp only [Nat.add_zero] at g6
      have hfl:(flat ys).length=xs.length:=hck.reps.length
      have hget:=fun k=>putV_get xs cc (n * m') k (by omega)
      have hcle:(cs++flat ys).length≤sn:=by rw [List.length_append,hfl,hxl,hcl,←hmul];omega
      have hadd:=(hS.kill r).adopt (b:=b) (n:=sn) (w':=w') (a:=.cells none (cs++flat ys)) rfl (by simp) o1 (fun hh=>(hS.hid _ hh).2.2.2 r _ hst hown) o2 (fun i x e1 e2=>by
        by_cases hi:i=r
        ·subst hi;rw [List.getElem?_set_self hrl] at e1;cases e1;cases e2
        ·rw [List.getElem?_set_ne (fun h=>hi h.symm)] at e1;exact hi (o3 i x e1 e2)) (fun k v hv=>hS.noIm r _ b hst hown rfl k v hv) g2 g3 g4 g5 (by
        refine ⟨b,_,tt,by simp [Inj.bind],⟨fr,g6,by rw [putV_size];exact qfr⟩,by rw [putV_size];omega,?_,?_,(fun _ hT=>by cases hT),sn,by simp [Inj.bind],hcle,by rw [putV_size];exact hs2⟩
        ·have:(putV cc (n * m') xs).toList.take (cs++flat ys).length=cc.toList.take cs.length++xs:=by
          apply List.ext_getElem?
          intro i
          rw [List.getElem?_take]
          have hl1:(cc.toList.take cs.length).length=n * m':=by simp;omega
          by_cases hi:i<(cs++flat ys).length
          ·rw [if_pos hi]
           have hg:(putV cc (n * m') xs).toList[i]?=(putV cc (n * m') xs)[i]?:=by simp
           rw [hg,hget]
           rw [List.length_append,hfl,hcl] at hi
           by_cases hi2:i<n * m'
           ·rw [if_neg (by omega),List.getElem?_append_left (by omega),List.getElem?_take,if_pos (by omega)];simp
           ·rw [if_pos (by omega),List.getElem?_append_right (by omega),hl1]
          ·rw [if_neg hi,List.getElem?_eq_none]
           rw [List.length_append,hl1]
           rw [List.length_append,hfl,hcl] at hi
           omega
         rw [this]
         exact Reps.mono ((hS.kill r).bind_le _ _) _ _ (q4.append hck.reps)
        ·rw [List.all_append,q5,hck.isCell];rfl)
      refine Did.of ((hS.kill r).bind_le _ _) (by simpa using hadd) (x:=.slice (some ⟨b,0,none⟩) (n+ys.length) cap) ?_ ?_
      ·simp only [Rep]
       exact ⟨b,cap,by simp [Inj.bind],rfl,hcap,(fun k e=>by cases e),sn,by simp [Inj.bind],hsl⟩
      ·have hfirst:=(hrun w rfl).2 ys.length (Nat.le_refl _)
       rw [List.take_of_length_le (by omega)] at hfirst
       refine r_builtin ho (fun cs=>?_)
       simp only [builtin,Sem.run_bind]
       simp only [List.map_toArray,List.map_cons,List.map_nil]
       rw [e1,r_append_zero hd hsize hd2 hi2 hlen,if_pos hcap,hfirst]
       simp [add_none,g1]
    ·cases h
 ·cases hf
theorem did_clearSl {m:Nat} {zero:List AV} {y:AX} (hf:opFits P gl o.op (.clearSl m zero y)=true) (h:opA (.clearSl m zero y) e st=some (.val v st')):Did P K base J (execOp a.eval o) w v st':=by
 simp only [opFits] at hf
 split at hf
 ·rename_i x t ho
  simp only [Bool.and_eq_true] at hf
  obtain ⟨⟨hel,hz⟩,hx⟩:=hf
  obtain ⟨el,hd,hsize,hm,_⟩:=elemFits_iff hel
  rw [hd] at hz
  simp only [] at hz
  split at hz
  ·rename_i zv hzv
   simp only [Bool.and_eq_true,beq_iff_eq] at hz
   obtain ⟨⟨hz,hzc⟩,hzm⟩:=hz
   have hzr:=constsFit_reps (J:=J) _ _ hz
   have h1:=xFits_rep hE hG hx
   simp only [opA] at h
   replace h1:=h1.asLst (m:=m)
   cases hy:(y.ev e).asLst m<;>simp only [hy] at h<;>try (cases h;done)
   ·rename_i m' es ap
    cases es with
    | cons _ _=>simp at h
    | nil =>
    simp only [Option.some.injEq,Nx.val.injEq] at h
    obtain ⟨rfl,rfl⟩:=h
    rw [hy] at h1;simp only [Rep] at h1
    refine Did.same hS (x:=.tuple #[]) (by simp [Rep,Reps]) (r_builtin ho (fun cs'=>?_))
    rcases h1.2 with ⟨e1,_⟩ | ⟨ad,cap,e1,_⟩
    ·simp [builtin,Builtin.clear_,e1,r_under hd]
    ·simp [builtin,Builtin.clear_,e1,r_under hd]
   ·rename_i r m' off n cp
    cases hst:st[r]? with
    | none=>simp [hst] at h
    | some ob =>
     cases ob<;>simp only [hst] at h<;>try (cases h;done)
     rename_i ty0 cs
     split at h
     ·rename_i hh
      obtain ⟨rfl,hzl,hle⟩:=hh
      simp only [Option.some.injEq,Nx.val.injEq] at h
      obtain ⟨rfl,rfl⟩:=h
      rw [hy] at h1;simp only [Rep] at h1
      obtain ⟨b,c,hb,e1,hnc,_⟩:=h1
      obtain ⟨b',cc,tt,q1,⟨fr,q2,qfr⟩,q3,q4,q5,qty,sn,q6,q7,q8⟩:=hS.obj r _ hst
      rw [hb] at q1;cases q1
      have hreps:∀k:Nat,Reps J (List.replicate k zero).flatten (List.replicate k zv.cells.toList).flatten:=by
       intro k
       induction k with
       | zero=>simp [Reps]
       | succ k ih=>rw [List.replicate_succ,List.replicate_succ,List.flatten_cons,List.flatten_cons];exact hzr.append ih
      have hcell:(List.replicate n zero).flatten.all AV.isCell=true:=by
       rw [List.all_eq_true] at hzc ⊢
       intro q hq
       obtain ⟨l,hl,hq⟩:=List.mem_flatten.1 hq
       rw [(List.mem_replicate.1 hl).2] at hq;exact hzc q hq
      have hlen:((List.replicate n zv.cells.toList).flatten).length=n * m':=by simp [hzm]
      obtain ⟨w',g1,g2,g3,g4,g5,g6⟩:=run_storeCells P ⟨b,off,none⟩ rfl tt fr ((List.replicate n zv.cells.toList).flatten) w 0 cc q2 qfr (by rw [hlen];simp only [Nat.add_zero];omega) ((hreps n).oneCells hcell)
      refine Did.of (Inj.le.refl J) (hS.upd hst hb rfl (by simp) rfl (by simp) g2 g3 g4 g5 ?_) (x:=.tuple #[]) (by simp [Rep,Reps]) (r_builtin ho (fun cs'=>?_))
      ·refine ⟨b,_,tt,hb,⟨fr,g6,by rw [putV_size];exact qfr⟩,?_,?_,putCells_isCell _ _ _ q5 hcell,by rw [putCells_length,putV_size];exact qty,sn,q6,by rw [putCells_length];exact q7,by rw [putV_size];exact q8⟩
       ·rw [putCells_length,putV_size];exact q3
       ·rw [putCells_length];exact putCells_reps _ _ _ _ _ _ (hreps n) q4
      ·have hzr:(zeroValue el).run P w=.ok zv w:=r_zero hzv
       cases n with
       | zero =>
        have hw:w'=w:=by
         simp [storeCells] at g1;exact g1.symm
        subst hw
        simp [builtin,Builtin.clear_,e1,r_under hd]
       | succ n =>
        have hzc:(Builtin.zeroCells zv.cells (n+1)).toList=(List.replicate (n+1) zv.cells.toList).flatten:=by
         have:=range_flat zv.cells m' hzm hm (n+1)
         simp only [Builtin.zeroCells,hzm]
         rw [hzm] at this
         rw [this]
        simp [builtin,Builtin.clear_,e1,r_under hd,hzr,hzc]
        rw [g1]
        simp
     ·cases h
  ·cases hz
 ·cases hf
end
end Go.Proofs.YtgkhmmlemgikjaaGreatDoor.Ai
namespace Go.Proofs.YtgkhmmlemgikjaaGreatDoor.Ai
open Go
def IsVal (o:Option Nx):Prop:=∀r,o=some r→∃v st,r=.val v st
theorem IsVal.none:IsVal none:=fun _ h=>by cases h
theorem IsVal.some {v:AV} {st:St}:IsVal (some (.val v st)):=fun _ h=>by cases h;exact ⟨v,st,rfl⟩
theorem IsVal.map {α:Type} {x:Option α} {f:α→Nx} (h:∀a,∃v st,f a=.val v st):IsVal (x.map f):=fun r hr=>by
 cases x with
 | none=>cases hr
 | some a=>simp at hr;subst hr;exact h a
theorem IsVal.bind {α:Type} {x:Option α} {f:α→Option Nx} (h:∀a,IsVal (f a)):IsVal (x.bind f):=fun r hr=>by
 cases x with
 | none=>cases hr
 | some a=>exact h a r hr
theorem opA_val {ao:AOp} {e:Env} {st:St} (hc:∀y ys,ao≠.call y ys) (hp:∀y,ao≠.panic y) (hd:∀y ys,ao≠.defer y ys):IsVal (opA ao e st):=by
 cases ao with
 | call y ys=>exact absurd rfl (hc y ys)
 | panic y=>exact absurd rfl (hp y)
 | defer y ys=>exact absurd rfl (hd y ys)
 | mkLit m z ps mu =>
  simp only [opA]
  refine IsVal.map fun a=>?_
  cases mu<;>exact ⟨_,_,rfl⟩
 | _ =>
  simp only [opA]
  repeat' (first | exact IsVal.none | exact IsVal.some | (refine IsVal.map fun _=>⟨_,_,rfl⟩) | (refine IsVal.bind fun _=>?_) | split)
section
variable {P:Program} {gl:List (Nat×AV)} {K:Sites} {base:Bs} {J:Inj} {st st':St} {w:World} {a:Act} {e:Env} {o:Oper} {v:AV}
theorem isAgg_basic {t:TypeId} {d:TypeDesc} (hd:P.underlying t=some d) (hk:kindD d<3):isAggT P t=some false:=by
 unfold isAggT
 rw [hd]
 cases d<;>simp [kindD] at hk ⊢
theorem r_eqCell {n:Nat} {t:TypeId} {d:TypeDesc} {k q:AV} {x y:Value} {b:Bool} (hd:P.underlying t=some d) (hkd:kindD d=keyKind k) (h3:keyKind k<3) (hk:Rep J k x) (hq:Rep J q y) (h:sameKey k q=some b) :
  (Op.equalIn (n+1) t x y).run P w=.ok b w:=by
 rw [Op.equalIn]
 simp only [Sem.run_bind,r_under hd,Result.andThen_ok]
 cases k<;>cases q<;>simp only [sameKey] at h<;>try (cases h;done)
 all_goals
  simp only [Rep] at hk hq
  cases d<;>simp [kindD,keyKind] at hkd
 ·cases h;subst hk hq;simp
 ·subst hk hq
  split at h
  ·rename_i hkk
   cases h;simp [hkk]
  ·cases h
 ·cases h;obtain ⟨b1,rfl,rfl⟩:=hk;obtain ⟨b2,rfl,rfl⟩:=hq
  cases b1 with | mk x=>cases b2 with | mk y =>
  simp only [Sem.run_pure]
  congr 1
  rw [Bool.eq_iff_iff]
  show (x == y)=true↔_
  simp
theorem r_eqFields {n:Nat}:∀(fs:List Field) (ks:List Nat) (off:Nat) (cs ds:List AV) (xs ys:Array Value) (b:Bool),plainFields P fs ks off=true→Reps J cs (xs.toList.drop off)→Reps J ds (ys.toList.drop off) →
  eqCells ks cs ds = some b → (forIn fs ((none : Option Bool), ()) fun (f : Field) (__s : Option Bool × Unit) => (
          if f.name ≠ "_" then do
           let __do_lift ←part f.type xs f.offset
           let __do_lift_1 ←part f.type ys f.offset
           let __do_lift ←Op.equalIn (n+1) f.type __do_lift __do_lift_1
           if (!__do_lift)=true then pure (ForInStep.done (some false,())) else pure (ForInStep.yield (none,()))
          else pure (ForInStep.yield (none,())):Sem (ForInStep (Option Bool×Unit)))).run P w=.ok (if b then (none,()) else (some false,())) w
 | [],ks,off,cs,ds,xs,ys,b,hp,h1,h2,he=>by
  cases ks with
  | cons k ks=>simp [plainFields] at hp
  | nil =>
   cases cs with
   | cons _ _=>simp [eqCells] at he
   | nil =>
    cases ds with
    | cons _ _=>simp [eqCells] at he
    | nil=>simp [eqCells] at he;subst he;simp
 | f::fs,ks,off,cs,ds,xs,ys,b,hp,h1,h2,he=>by
  cases ks with
  | nil=>simp [plainFields] at hp
  | cons k ks =>
   simp only [plainFields,Bool.and_eq_true,bne_iff_ne,beq_iff_eq,decide_eq_true_eq] at hp
   obtain ⟨⟨⟨⟨⟨hname,rfl⟩,hk⟩,h3⟩,hsz⟩,hp⟩:=hp
   obtain ⟨d,hd,hk⟩:=isK_some hk
   simp only [beq_iff_eq] at hk
   cases cs with
   | nil=>simp [eqCells] at he
   | cons u cs =>
    cases ds with
    | nil=>simp [eqCells] at he
    | cons q ds =>
     simp only [eqCells] at he
     split at he
     ·rename_i hku
      simp only [Reps] at h1 h2
      obtain ⟨x,xs',hx,r1,r1'⟩:=h1
      obtain ⟨y,ys',hy,r2,r2'⟩:=h2
      have hx0:xs[f.offset]?=some x:=by
       have:(xs.toList.drop f.offset)[0]?=some x:=by rw [hx];rfl
       rw [List.getElem?_drop] at this;simpa using this
      have hy0:ys[f.offset]?=some y:=by
       have:(ys.toList.drop f.offset)[0]?=some y:=by rw [hy];rfl
       rw [List.getElem?_drop] at this;simpa using this
      have hx':xs'=xs.toList.drop (f.offset+1):=by
       rw [←List.drop_drop,hx];rfl
      have hy':ys'=ys.toList.drop (f.offset+1):=by
       rw [←List.drop_drop,hy];rfl
      have hag:=isAgg_basic hd (by omega)
      have hp1:(part f.type xs f.offset).run P w=.ok x w:=by simp [part,r_isAgg hag,hx0]
      have hp2:(part f.type ys f.offset).run P w=.ok y w:=by simp [part,r_isAgg hag,hy0]
      rw [List.forIn_cons]
      simp only [ne_eq,hname,not_false_eq_true,if_true,Sem.run_bind,hp1,hp2,Result.andThen_ok]
      cases hs:sameKey u q with
      | none=>simp [hs] at he
      | some bb =>
       have hcell:=r_eqCell (P:=P) (w:=w) (n:=n) hd (by omega) (by omega) r1 r2 hs
       rw [hcell]
       cases bb with
       | false=>simp [hs] at he;subst he;simp
       | true =>
        simp only [hs] at he
        simp only [Result.andThen_ok,Bool.not_true,Bool.false_eq_true,if_false,Sem.run_pure]
        exact r_eqFields fs ks (f.offset+1) cs ds xs ys b hp (hx'▸r1') (hy'▸r2') he
     ·cases he
theorem did_eqAgg (hS:Sim K base J st w) (hE:Reps J e a.tmps.toList) (hG:GlOk gl J) {ks:List Nat} {neg:Bool} {y z:AX} (hf:opFits P gl o.op (.eqAgg ks neg y z)=true) (h:opA (.eqAgg ks neg y z) e st=some (.val v st')) :
  Did P K base J (execOp a.eval o) w v st':=by
 cases ho:o.op<;>simp only [ho,opFits,Bool.false_eq_true] at hf
 rename_i op' t x u t'
 simp only [Bool.and_eq_true,beq_iff_eq,Bool.not_eq_true'] at hf
 obtain ⟨⟨⟨⟨⟨rfl,hk⟩,hst⟩,hgd⟩,hx⟩,hu⟩:=hf
 have h1:=xFits_rep hE hG hx
 have h2:=xFits_rep hE hG hu
 split at hk
 ·rename_i fs hd
  simp only [opA] at h
  cases hy:y.ev e<;>simp only [hy] at h<;>try (cases h;done)
  cases hz:z.ev e<;>simp only [hz] at h<;>try (cases h;done)
  rename_i cs ds
  cases he:eqCells ks cs ds with
  | none=>simp [he] at h
  | some b =>
   simp only [he,Option.map_some,Option.some.injEq,Nx.val.injEq] at h
   obtain ⟨rfl,rfl⟩:=h
   rw [hy] at h1;rw [hz] at h2
   simp only [Rep] at h1 h2
   obtain ⟨xs,e1,r1,_⟩:=h1
   obtain ⟨ys,e2,r2,_⟩:=h2
   have heq:(Op.equal t (.agg xs) (.agg ys)).run P w=.ok b w:=by
    refine r_equal ?_
    rw [Op.equalIn]
    simp only [Sem.run_bind,r_under hd,Result.andThen_ok,run_program,hst,Bool.false_eq_true,if_false]
    rw [←Array.forIn_toList,r_eqFields fs.toList ks 0 cs ds xs ys b hk (by simpa using r1) (by simpa using r2) he]
    cases b<;>simp
   have hgu:∀bo:BinOp,(eqGuard bo t x u (.agg xs) (.agg ys)).run P w=.ok () w:=by
    intro bo
    cases bo<;>simp [eqGuard,hgd]
   refine Did.same hS (x:=.bool (if neg then !b else b)) (by simp [Rep]) ?_
   cases neg<;>simp [execOp,ho,e1,e2,hgu,binOp,heq]
 ·cases hk
theorem op_val (hS:Sim K base J st w) (hE:Reps J e a.tmps.toList) (hG:GlOk gl J) {ao:AOp} (hf:opFits P gl o.op ao=true) (h:opA ao e st=some (.val v st')) :
  Did P K base J (execOp a.eval o) w v st':=by
 cases ao with
 | mov y=>exact did_mov hS hE hG hf h
 | movT y=>exact did_movT hS hE hG hf h
 | pick c x y=>exact did_pick hS hE hG hf h
 | new z mu=>exact did_new hS hf h
 | box m y mu=>exact did_box hS hE hG hf h
 | boxT T m y=>exact did_boxT hS hE hG hf h
 | build z ps=>exact did_build hS hE hG hf h
 | mkLit m z ps mu=>exact did_mkLit hS hE hG hf h
 | load m agg y=>exact did_load hS hE hG hf h
 | store m y z=>exact did_store hS hE hG hf h
 | nilCheck y=>exact did_nilCheck hS hE hG hf h
 | bin op y z=>exact did_bin hS hE hG hf h
 | eqBool n y z=>exact did_eqBool hS hE hG hf h
 | eqAgg ks n y z=>exact did_eqAgg hS hE hG hf h
 | eqPtr n y z=>exact did_eqPtr hS hE hG hf h
 | eqIface n y z=>exact did_eqIface hS hE hG hf h
 | un op y=>exact did_un hS hE hG hf h
 | convInt k y=>exact did_convInt hS hE hG hf h
 | convSame y=>exact did_convSame hS hE hG hf h
 | convBytes mu y=>exact did_convBytes hS hE hG hf h
 | convStr y=>exact did_convStr hS hE hG hf h
 | mkIface t y=>exact did_mkIface hS hE hG hf h
 | mkFunc f ys zs=>exact did_mkFunc hS hE hG hf h
 | mkMap=>exact did_mkMap hS hf h
 | mkSlice m b z l c t=>exact did_mkSlice hS hE hG hf h
 | sliceStr y lo hi=>exact did_sliceStr hS hE hG hf h
 | sliceLst m y lo hi mx=>exact did_sliceLst hS hE hG hf h
 | sliceArr n m y lo hi=>exact did_sliceArr hS hE hG hf h
 | fieldAddr off s agg y=>exact did_fieldAddr hS hE hG hf h
 | field off s agg y=>exact did_field hS hE hG hf h
 | indexAddr m agg arr y z=>exact did_indexAddr hS hE hG hf h
 | indexStr y z=>exact did_indexStr hS hE hG hf h
 | indexArr n m agg y z=>exact did_indexArr hS hE hG hf h
 | lookup kd z ok y i=>exact did_lookup hS hE hG hf h
 | mapUpdate kd y z u=>exact did_mapUpdate hS hE hG hf h
 | extract y i=>exact did_extract hS hE hG hf h
 | assertT t z ok y=>exact did_assertT hS hE hG hf h
 | lenStr y=>exact did_lenStr hS hE hG hf h
 | lenSl y=>exact did_lenSl hS hE hG hf h
 | lenMap y=>exact did_lenMap hS hE hG hf h
 | lenArr n=>exact did_lenArr hS hf h
 | append m b y z=>exact did_append hS hE hG hf h
 | copy m y z=>exact did_copy hS hE hG hf h
 | appendM m b y z=>exact did_appendM hS hE hG hf h
 | clearSl m z y=>exact did_clearSl hS hE hG hf h
 | minmax b ys=>exact did_minmax hS hE hG hf h
 | call y ys =>
  simp only [opA] at h
  split at h<;>simp at h
 | panic y =>
  simp only [opA] at h
  split at h<;>simp at h
 | defer y ys =>
  simp only [opA] at h
  split at h<;>simp at h
 | recover=>simp [opA] at h
 | valloc m=>exact did_valloc hS hf h
 | vbox m d x=>simp [opFits] at hf
theorem op_pan (hE:Reps J e a.tmps.toList) (hG:GlOk gl J) {ao:AOp} (hf:opFits P gl o.op ao=true) (h:opA ao e st=some (.pan v)):∃x,Rep J v x∧(execOp a.eval o).run P w=.halt (.panic x) w:=by
 cases ao with
 | panic y =>
  simp only [opA] at h
  split at h
  ·rename_i t q hy
   simp only [Option.some.injEq,Nx.pan.injEq] at h
   subst h
   have fin:∀x,xFits gl x y=true→∃z,a.eval x=.iface t z∧Rep J (.iface t q) (a.eval x):=by
    intro x hx
    have:=xFits_rep hE hG hx
    rw [hy] at this
    have h':=this
    simp only [Rep] at h'
    obtain ⟨z,e1,_⟩:=h'
    exact ⟨z,e1,this⟩
   simp only [opFits] at hf
   split at hf
   ·rename_i x ho
    obtain ⟨z,e1,hr⟩:=fin x hf
    exact ⟨_,hr,by simp [execOp,ho,e1,Instr.panic]⟩
   ·split at hf
    ·rename_i x ts ho
     obtain ⟨z,e1,hr⟩:=fin x hf
     have:=asBuiltin_eq ho
     exact ⟨_,hr,by simp [execOp,this,resolve,invoke,builtin,e1,Instr.panic]⟩
    ·cases hf
  ·cases h
 | call y ys =>
  simp only [opA] at h
  split at h<;>simp at h
 | defer y ys =>
  simp only [opA] at h
  split at h<;>simp at h
 | _ =>
  obtain ⟨u,s,hu⟩:=opA_val (by intro y ys;simp) (by intro y;simp) (by intro y ys;simp) _ h
  cases hu
theorem op_call (hE:Reps J e a.tmps.toList) (hG:GlOk gl J) {y:AX} {ys:List AX} (hf:opFits P gl o.op (.call y ys)=true) {f:FuncId} {args:List AV} (h:opA (.call y ys) e st=some (.call f args)) :
  ∃cargs:Array Value,Reps J args cargs.toList∧(execOp a.eval o).run P w=(callFunc f cargs).run P w:=by
 simp only [opFits] at hf
 cases ho:o.op<;>simp only [ho,Bool.false_eq_true] at hf
 rename_i c
 unfold callFits at hf
 split at hf
 ·rename_i x hc
  simp only [Bool.and_eq_true] at hf
  have h1:=xFits_rep hE hG hf.1
  have h2:=xsFit_reps hE hG hf.2
  simp only [opA] at h
  split at h
  ·rename_i g first cap hy
   simp only [Option.some.injEq,Nx.call.injEq] at h
   obtain ⟨rfl,rfl⟩:=h
   rw [hy] at h1;simp only [Rep] at h1
   obtain ⟨a',b',e1,r1,r2⟩:=h1
   refine ⟨(a'++c.args.map a.eval)++b',?_,?_⟩
   ·simp only [Array.toList_append,Array.toList_map]
    exact (r1.append h2).append r2
   ·simp [execOp,ho,resolve,hc,e1,Deferred.ofValue,invoke]
  ·cases h
  ·cases h
 ·cases hf
theorem op_round (hE:Reps J e a.tmps.toList) (hG:GlOk gl J) {y:AX} {ys:List AX} (hf:opFits P gl o.op (.call y ys)=true) {r:Nat} {args:List AV} (h:opA (.call y ys) e st=some (.round r args)) :
  ∃(cargs:Array Value) (l:Nat),J.ρ r=some l∧Reps J args cargs.toList∧(execOp a.eval o).run P w=(Instr.yield l cargs).run P w:=by
 simp only [opFits] at hf
 cases ho:o.op<;>simp only [ho,Bool.false_eq_true] at hf
 rename_i c
 unfold callFits at hf
 split at hf
 ·rename_i x hc
  simp only [Bool.and_eq_true] at hf
  have h1:=xFits_rep hE hG hf.1
  have h2:=xsFit_reps hE hG hf.2
  simp only [opA] at h
  split at h
  ·cases h
  ·rename_i r' hy
   simp only [Option.some.injEq,Nx.round.injEq] at h
   obtain ⟨rfl,rfl⟩:=h
   rw [hy] at h1;simp only [Rep] at h1
   obtain ⟨_,_,l,hl,e1⟩:=h1
   refine ⟨c.args.map a.eval,l,hl,by simpa using h2,?_⟩
   simp [execOp,ho,resolve,hc,e1,Deferred.ofValue,invoke]
  ·cases h
 ·cases hf
theorem call_only {ao:AOp} {f:FuncId} {args:List AV} (h:opA ao e st=some (.call f args)):∃y ys,ao=.call y ys:=by
 cases ao with
 | call y ys=>exact ⟨y,ys,rfl⟩
 | defer y ys =>
  simp only [opA] at h
  split at h<;>simp at h
 | panic y =>
  simp only [opA] at h
  split at h<;>simp at h
 | _ =>
  obtain ⟨u,s,hu⟩:=opA_val (by intro y ys;simp) (by intro y;simp) (by intro y ys;simp) _ h
  cases hu
theorem round_only {ao:AOp} {r:Nat} {args:List AV} (h:opA ao e st=some (.round r args)):∃y ys,ao=.call y ys:=by
 cases ao with
 | call y ys=>exact ⟨y,ys,rfl⟩
 | defer y ys =>
  simp only [opA] at h
  split at h<;>simp at h
 | panic y =>
  simp only [opA] at h
  split at h<;>simp at h
 | _ =>
  obtain ⟨u,s,hu⟩:=opA_val (by intro y ys;simp) (by intro y;simp) (by intro y ys;simp) _ h
  cases hu
theorem op_defer (hE:Reps J e a.tmps.toList) (hG:GlOk gl J) {ao:AOp} (hf:opFits P gl o.op ao=true) {d:ADef} (h:opA ao e st=some (.defer d)) :
  ∃cd,DefRep J d cd∧(execOp a.eval o).run P w=.ok (.defer cd) w:=by
 cases ao with
 | defer y ys =>
  simp only [opFits] at hf
  cases ho:o.op<;>simp only [ho,Bool.false_eq_true] at hf
  rename_i c
  unfold callFits at hf
  split at hf
  ·rename_i x hc
   simp only [Bool.and_eq_true] at hf
   have h1:=xFits_rep hE hG hf.1
   have h2:=xsFit_reps hE hG hf.2
   simp only [opA] at h
   split at h
   ·rename_i g first cap hy
    simp only [Option.some.injEq,Nx.defer.injEq] at h
    subst h
    rw [hy] at h1;simp only [Rep] at h1
    obtain ⟨a',b',e1,r1,r2⟩:=h1
    refine ⟨{ target:=.fn (.func g) b',args:=a'++c.args.map a.eval },⟨b',rfl,?_⟩,?_⟩
    ·simp only [Array.toList_append,Array.toList_map]
     exact (r1.append h2).append r2
    ·simp [execOp,ho,resolve,hc,e1,Deferred.ofValue]
   ·cases h
  ·cases hf
 | call y ys =>
  simp only [opA] at h
  split at h<;>simp at h
 | panic y =>
  simp only [opA] at h
  split at h<;>simp at h
 | _ =>
  obtain ⟨u,s,hu⟩:=opA_val (by intro y ys;simp) (by intro y;simp) (by intro y ys;simp) _ h
  cases hu
end
end Go.Proofs.YtgkhmmlemgikjaaGreatDoor.Ai
