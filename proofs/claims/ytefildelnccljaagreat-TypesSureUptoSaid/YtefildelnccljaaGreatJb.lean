/- Part Jb. No condition. -/
import Derived.Test.YtefildelnccljaaGreatEf
import Derived.Test.YtefildelnccljaaGreatEg
import Derived.Shelf.SlicesE.Clone
import Derived.Shelf.SlSortCmp.NoneTotal
import Derived.Test.YtefildelnccljaaGreatEd
import Derived.Test.YtefildelnccljaaGreatJl
import Derived.Test.YtefildelnccljaaGreatChecked
import Derived.KernelRfl
set_option linter.unusedVariables false
set_option linter.unusedSimpArgs false
namespace Go.Proofs.YtefildelnccljaaGreat.Ai
open Go Go.Shelf Go.RowKit Go.Lib Go.Sort
def cloneA (m bytes:Nat):List AV→St→Option (AOut×St)
 | [v],st=>match v.asLst m with
  | .lst m' es _=>if m'=m∧es.length≤great∧bytes≤256 then
    (if es=[] then some (.ret (.lst m [] .no),st) else some (.ret (.sl st.length m 0 es.length none),st++[.cells none (flat es)])) else none
  | _=>none
 | _,_=>none
set_option maxHeartbeats 2000000 in
set_option maxRecDepth 100000 in
theorem clone_zero {P:Program} {ρ:Ren} (L:SlLaysE0.n41 P ρ) (i0:TypeInfo) (z:Value) (size bytes:Nat) (hi:P.info? (ρ.t 23)=some i0) (hz0:i0.zero=some z) (hz1:i0.size=size) (hz2:i0.bytes=bytes) (hzs:z.cells.size=size) (hsz:0<size)
  (z23:∀w,(Go.sizeOf (ρ.t 23)).run P w=.ok size w) (a:Addr) (c:Nat) (w:World) :
  Calls P (ρ.f 41) #[.slice (some a) 0 c] w fun e w'=>∃v',e=.returned v'∧w'.ownsRow w.heap.size (ρ.t 23) size v' 0 []∧Below w.heap.size w w':=by
 have mixed:=L.mixed;have t4:=L.t4;have a4:=L.a4;have z4:=L.z4;have v4:=L.v4;have t22:=L.t22;have a22:=L.a22;have z22:=L.z22;have v22:=L.v22
 have q22:∀(w:World) (a:Option Addr) (n c n' c':Nat),(binOp .eql (ρ.t 22) (.slice a n c) (.slice none n' c')).run P w=.ok (.bool a.isNone) w:=fun w a n c n' c'=>Lib.run_eql_slice_nil w _ _ a n c n' c' L.t22
 have u22:∀w,Sem.run P (underlying (ρ.t 22)) w=.ok (TypeDesc.slice (ρ.t 23)) w:=run_underlying t22
 obtain ⟨_,_,FG⟩:=L.f41
 go_enter FG,SlBodyN.n41_ntmps ρ
 go_wp2_with (at_builtin;refine wpList_append_own _ rfl _ _ (ρ.t 22) rfl w.heap.size (ρ.t 23) i0 z size bytes t22 hi hz0 hz1 hz2 hzs hsz _ _ _ rfl (World.ownsRow_made w #[] 0 (Nat.le_refl _) (Nat.zero_le _) (by simp)) a 0 c [] rfl (by simp) (by intro j u hj;simp at hj) (by intro u hu;cases hu) (by unfold maxLen;omega) (by omega) (by simp) ?_)
 intro v' w1 hown hgrow hnil
 go_wp2
 go_ret
 refine ⟨v',rfl,by simpa using hown,?_⟩
 exact ((Below.refl _ w).alloc (Nat.le_refl _) _).grown hgrow (by simp) (by intro k hk;simp [Value.ownBlock] at hk;omega)
theorem clone_task {P:Program} {gl:List (Nat×AV)} {A:AProg} {B:World→Prop} {ρ:Ren} (L:SlLaysE0.n41 P ρ) (i0:TypeInfo) (z:Value) (size bytes:Nat) (hi:P.info? (ρ.t 23)=some i0) (hz0:i0.zero=some z) (hz1:i0.size=size) (hz2:i0.bytes=bytes) (hzs:z.cells.size=size) (hsz:0<size)
  (z23:∀w,(Go.sizeOf (ρ.t 23)).run P w=.ok size w) (he:∀args w,(callFunc (ρ.f 41) args).run P w=.ok (.enter (ρ.f 41) args) w)
  {args:List AV} {st:St} {o:AOut} {st':St} (hh:cloneA size bytes args st=some (o,st')) :
  TaskOk P gl A B (.call (ρ.f 41) args) st (outRes st' o):=by
 unfold cloneA at hh
 split at hh
 ·rename_i v
  intro base J w cargs hS hG hR
  simp only [Reps] at hR
  obtain ⟨x,xs,e1,hx,rfl⟩:=hR
  obtain rfl:cargs=#[x]:=by apply Array.toList_inj.1;simpa using e1
  have hx:=hx.asLst (m:=size)
  refine .inl ⟨he _ _,callsIn_wide.2 ?_⟩
  cases hv:v.asLst size<;>simp only [hv] at hh<;>try (cases hh;done)
  rename_i m' es ap
  rw [hv] at hx
  split at hh
  ·rename_i hc
   obtain ⟨rfl,hgr,hby⟩:=hc
   simp only [Rep] at hx
   split at hh
   ·rename_i hes
    subst hes
    simp only [Option.some.injEq,Prod.mk.injEq] at hh
    obtain ⟨rfl,rfl⟩:=hh
    rcases hx.2 with ⟨rfl,_⟩ | ⟨a,cap,rfl,_⟩
    ·refine (AnyE.slices_Clone_nil L 0 0 w).mono fun e w' ⟨h1,h2⟩=>?_
     subst h2
     exact ⟨J,Inj.le.refl J,hS,.lst m' [] .no,.slice none 0 0,rfl,by simp [Rep],h1⟩
    ·refine (clone_zero L i0 z m' bytes hi hz0 hz1 hz2 hzs hsz z23 a cap w).mono fun e w' ⟨v',h1,h2,h3⟩=>?_
     refine ⟨J,Inj.le.refl J,hS.keep (Kept.of_below h3),.lst m' [] .no,v',rfl,?_,h1⟩
     rcases h2.2 with ⟨rfl,_⟩ | ⟨g,c2,cur,rfl,_⟩
     ·simp [Rep]
     ·simp only [Rep]
      exact ⟨fun _ e=>(by cases e),.inr ⟨_,c2,rfl,fun _=>rfl,Nat.zero_le _,fun e=>(by cases e),by simp [Elems]⟩⟩
   ·rename_i hes
    simp only [Option.some.injEq,Prod.mk.injEq] at hh
    obtain ⟨rfl,rfl⟩:=hh
    have hpos:0<es.length:=List.length_pos_iff.2 hes
    rcases hx.2 with ⟨_,h⟩ | ⟨a,cap,rfl,hsp,hle,_,hel⟩
    ·exact absurd h hes
    ·obtain ⟨blk,off,sp⟩:=a
     obtain rfl:sp=none:=hsp (by omega)
     obtain ⟨xs,hck,hrow⟩:=hel.chunks
     have hmul:es.length * bytes≤great * 256:=Nat.mul_le_mul hgr hby
     have hg:great * 256≤140737488355328:=by decide
     refine (AnyE.slices_Clone L i0 z m' bytes hi hz0 hz1 hz2 hzs hsz z23 blk off es.length cap xs w hck.length (Nat.le_trans hgr (by decide)) (Nat.le_trans hmul hg) (fun j u hj=>hS.imOk _ _ _ (hrow j u hj)) (hck.reps.oneCells hck.isCell)).mono fun e w' ⟨v',h1,h2,_,h3⟩=>?_
     rcases h2.2 with ⟨_,h⟩ | ⟨g,c2,cur,rfl,hbg,hgh,hnc,_,hcs,htk⟩
     ·omega
     ·have hS1:=hS.keep (Kept.of_below h3)
      have hlt:g<w'.heap.size:=(Array.getElem?_eq_some_iff.1 hgh).1
      have hfl:(flat es).length=xs.length:=hck.reps.length
      have hxl:=hck.length
      have hmc:es.length * m'≤c2 * m':=Nat.mul_le_mul_right _ hnc
      have hadd:=hS1.adopt (b:=g) (n:=cur.size) (w':=w') (a:=.cells none (flat es)) rfl (by simp) (Nat.le_trans hS.size hbg) hlt
       (fun r o h1 h2=>by have:=(hS.own r o g h1 h2).2.1;omega) (fun k v hv=>by have:=lt_of_cell (hS.imOk g k v hv);omega) rfl rfl rfl (fun _ _=>rfl)
       ⟨g,cur,ρ.t 23,by simp [Inj.bind],⟨(0,0),hgh,Clear.zero _⟩,by omega,by
        rw [hfl,hxl,htk];exact Reps.mono (hS1.bind_le _ _) _ _ hck.reps,hck.isCell,(fun _ hT=>by cases hT),cur.size,by simp [Inj.bind],by omega,Nat.le_refl _⟩
      refine ⟨_,hS1.bind_le _ _,hadd,.sl st.length m' 0 es.length none,_,rfl,?_,h1⟩
      simp only [Rep]
      exact ⟨g,c2,by simp [Inj.bind],rfl,hnc,(fun k e=>by cases e),cur.size,by simp [Inj.bind],by rw [hcs];exact Nat.le_of_eq (Nat.zero_add _)⟩
  ·cases hh
 ·cases hh
end Go.Proofs.YtefildelnccljaaGreat.Ai
namespace Go.Proofs.YtefildelnccljaaGreat.Ai
open Go Go.Shelf Go.RowKit Go.Lib Go.Sort
def pairsOf:List AV→Option (List (Int×Int))
 | []=>some []
 | .int .i64 c::.int .i64 a::r=>(pairsOf r).map ((c,a)::·)
 | _=>none
def pairCells:List (Int×Int)→List AV
 | []=>[]
 | x::r=>.int .i64 x.1::.int .i64 x.2::pairCells r
def encP (x:Int×Int):List Value:=[.int .i64 x.1,.int .i64 x.2]
def pairVals:List (Int×Int)→List Value
 | []=>[]
 | x::r=>.int .i64 x.1::.int .i64 x.2::pairVals r
def insP (lt:Int×Int→Int×Int→Bool) (x:Int×Int):List (Int×Int)→List (Int×Int)
 | []=>[x]
 | y::l=>if lt y x then y::insP lt x l else x::y::l
def sortP (lt:Int×Int→Int×Int→Bool):List (Int×Int)→List (Int×Int)
 | []=>[]
 | x::l=>insP lt x (sortP lt l)
theorem pairsOf_some:∀{cs:List AV} {l:List (Int×Int)},pairsOf cs=some l→cs=pairCells l
 | [],l,h=>by simp [pairsOf] at h;subst h;rfl
 | .int .i64 c::.int .i64 a::r,l,h=>by
  simp only [pairsOf,Option.map_eq_some_iff] at h
  obtain ⟨l',h1,rfl⟩:=h
  rw [pairsOf_some h1];rfl
theorem pairsOf_cells:∀l:List (Int×Int),pairsOf (pairCells l)=some l
 | []=>rfl
 | x::l=>by simp [pairsOf,pairCells,pairsOf_cells l]
theorem pairCells_length:∀l:List (Int×Int),(pairCells l).length=l.length * 2
 | []=>rfl
 | x::l=>by simp [pairCells,pairCells_length l];omega
theorem pairVals_length:∀l:List (Int×Int),(pairVals l).length=l.length * 2
 | []=>rfl
 | x::l=>by simp [pairVals,pairVals_length l];omega
theorem pairCells_isCell:∀l:List (Int×Int),(pairCells l).all AV.isCell=true
 | []=>rfl
 | x::l=>by simp [pairCells,pairCells_isCell l,AV.isCell]
theorem reps_pairs {J:Inj}:∀{l:List (Int×Int)} {xs:List Value},Reps J (pairCells l) xs→xs=pairVals l
 | [],xs,h=>by simpa [pairCells,pairVals,Reps] using h
 | x::l,xs,h=>by
  simp only [pairCells,Reps,Rep] at h
  obtain ⟨y,ys,rfl,rfl,y2,ys2,rfl,rfl,h2⟩:=h
  rw [reps_pairs h2];rfl
theorem pairs_reps {J:Inj}:∀l:List (Int×Int),Reps J (pairCells l) (pairVals l)
 | []=>by simp [pairCells,pairVals,Reps]
 | x::l=>by
  simp only [pairCells,pairVals,Reps,Rep]
  exact ⟨_,_,rfl,rfl,_,_,rfl,rfl,pairs_reps l⟩
theorem pairVals_get:∀(l:List (Int×Int)) (t:Nat),t<l.length * 2→(pairVals l)[t]?=some (encP (l[t / 2]?.getD default))[t % 2]!
 | [],t,h=>by simp at h
 | x::l,0,_=>rfl
 | x::l,1,_=>rfl
 | x::l,t+2,h=>by
  have:(t+2) / 2=t / 2+1:=by omega
  rw [this,Nat.add_mod_right]
  simp only [pairVals,List.getElem?_cons_succ]
  exact pairVals_get l t (by simp at h;omega)
theorem flatK_get (l:List (Int×Int)) (t:Nat) (h:t<l.length * 2):(pairVals l)[t]?=some (flatK encP 2 l.toArray)[t]! := by
 rw [pairVals_get l t h,get_flatK _ _ _ _ (by simpa using h)]
 congr 3
 have:t / 2<l.length:=by omega
 simp [this]
theorem insP_perm (lt:Int×Int→Int×Int→Bool) (x:Int×Int):∀l,(insP lt x l).Perm (x::l)
 | []=>.refl _
 | y::l=>by
  simp only [insP]
  split
  ·exact ((insP_perm lt x l).cons y).trans (.swap _ _ _)
  ·exact .refl _
theorem sortP_perm (lt:Int×Int→Int×Int→Bool):∀l,(sortP lt l).Perm l
 | []=>.refl _
 | x::l=>(insP_perm lt x _).trans ((sortP_perm lt l).cons x)
theorem insP_sorted {lt:Int×Int→Int×Int→Bool} (hO:SWO lt) (x:Int×Int):∀l:List (Int×Int),l.Pairwise (fun a b=>lt b a=false)→(insP lt x l).Pairwise fun a b=>lt b a=false
 | [],_=>by simp [insP]
 | y::l,h=>by
  simp only [insP]
  rw [List.pairwise_cons] at h
  split
  ·rename_i hy
   rw [List.pairwise_cons]
   refine ⟨fun z hz=>?_,insP_sorted hO x l h.2⟩
   rcases List.mem_cons.1 ((insP_perm lt x l).mem_iff.1 hz) with rfl | hz
   ·cases hxy:lt z y with
    | false=>rfl
    | true=>have:=hO.trans _ _ _ hxy hy;rw [hO.irrefl] at this;cases this
   ·exact h.1 z hz
  ·rename_i hy
   have hy:lt y x=false:=by simpa using hy
   rw [List.pairwise_cons]
   refine ⟨fun z hz=>?_,List.pairwise_cons.2 h⟩
   rcases List.mem_cons.1 hz with rfl | hz
   ·exact hy
   ·exact hO.ntrans _ _ _ (h.1 z hz) hy
theorem sortP_sorted {lt:Int×Int→Int×Int→Bool} (hO:SWO lt):∀l:List (Int×Int),(sortP lt l).Pairwise fun a b=>lt b a=false
 | []=>.nil
 | x::l=>insP_sorted hO x _ (sortP_sorted hO l)
theorem mergeSort_sortP {lt:Int×Int→Int×Int→Bool} (hO:SWO lt) (hT:∀x y,lt x y=false→lt y x=false→x=y) (l:List (Int×Int)):(l.mergeSort fun x y=>!lt y x)=sortP lt l:=by
 refine List.Perm.eq_of_pairwise (le:=fun x y=>(!lt y x)=true) ?_ ?_ ?_ ((List.mergeSort_perm _ _).trans (sortP_perm lt l).symm)
 ·intro a b _ _ h1 h2
  simp only [Bool.not_eq_true'] at h1 h2
  exact hT a b h2 h1
 ·refine List.pairwise_mergeSort ?_ ?_ _
  ·intro a b c h1 h2
   simp only [Bool.not_eq_true'] at h1 h2 ⊢
   exact hO.ntrans c b a h2 h1
  ·intro a b
   cases h:lt b a with
   | false=>simp
   | true=>cases h':lt a b with
    | false=>simp
    | true=>have:=hO.trans _ _ _ h h';rw [hO.irrefl] at this;cases this
 ·exact (sortP_sorted hO l).imp fun h=>by simpa using h
def sortA (g:FuncId) (lt:Int×Int→Int×Int→Bool):List AV→St→Option (AOut×St)
 | [v,.func (.func g') [] []],st=>if g'=g then (match v.asLst 2 with
  | .lst 2 [] _=>some (.ret (.tup []),st)
  | .sl r 2 0 n _=>(match st[r]? with
   | some (.cells none cs)=>(match pairsOf cs with
    | some l=>if l.length=n∧n≤great then some (.ret (.tup []),st.set r (.cells none (pairCells (sortP lt l)))) else none
    | none=>none)
   | _=>none)
  | _=>none) else none
 | _,_=>none
theorem sort_task {P:Program} {gl:List (Nat×AV)} {A:AProg} {B:World→Prop} {ρ:Ren} (L:SlLaysF0.n6 P ρ) (aE:∀w,(isAgg (ρ.t 24)).run P w=.ok true w) (zE:∀w,(Go.sizeOf (ρ.t 24)).run P w=.ok 2 w)
  (g:Nat) (cf:Int×Int→Int×Int→Int) (hO:SWO (ltOf cf)) (hT:∀x y,(ltOf cf) x y=false→(ltOf cf) y x=false→x=y) (eg:∀args w,(callFunc g args).run P w=.ok (.enter g args) w)
  (hcmp:∀blk off size w,CmpLays P g #[] encP 2 cf blk off size w) (he:∀args w,(callFunc (ρ.f 6) args).run P w=.ok (.enter (ρ.f 6) args) w)
  {args:List AV} {st:St} {o:AOut} {st':St} (hh:sortA g (ltOf cf) args st=some (o,st')):TaskOk P gl A B (.call (ρ.f 6) args) st (outRes st' o):=by
 unfold sortA at hh
 split at hh
 ·rename_i v g'
  split at hh
  ·rename_i hg
   subst hg
   intro base J w cargs hS hG hR
   simp only [Reps,Rep] at hR
   obtain ⟨x,_,e1,hx,fv,_,rfl,⟨a',b',rfl,ha,hb⟩,rfl⟩:=hR
   obtain rfl:a'=#[]:=by apply Array.toList_inj.1;simpa using ha
   obtain rfl:b'=#[]:=by apply Array.toList_inj.1;simpa using hb
   obtain rfl:cargs=#[x,.func (.func g') #[] #[]]:=by apply Array.toList_inj.1;simpa using e1
   have hx:=hx.asLst (m:=2)
   refine .inl ⟨he _ _,callsIn_wide.2 ?_⟩
   split at hh
   ·rename_i hv
    simp only [Option.some.injEq,Prod.mk.injEq] at hh
    obtain ⟨rfl,rfl⟩:=hh
    rw [hv] at hx
    simp only [Rep] at hx
    have:∃p cap,x=.slice p 0 cap:=by
     rcases hx.2 with ⟨rfl,_⟩ | ⟨a,cap,rfl,_⟩
     ·exact ⟨none,0,rfl⟩
     ·exact ⟨some a,cap,rfl⟩
    obtain ⟨p,cap,rfl⟩:=this
    refine (AnyF.slices_SortFunc_none L p cap _ w).mono fun e w' ⟨h1,h2⟩=>?_
    subst h2
    exact ⟨J,Inj.le.refl J,hS,.tup [],.tuple #[],rfl,by simp [Rep,Reps],h1⟩
   ·rename_i r n cp hv
    rw [hv] at hx
    cases hst:st[r]? with
    | none=>simp [hst] at hh
    | some ob =>
    rw [hst] at hh
    cases ob<;>try (simp at hh;done)
    rename_i ty cs
    cases ty<;>try (simp at hh;done)
    simp only [] at hh
    cases hp:pairsOf cs with
    | none=>simp [hp] at hh
    | some l =>
    rw [hp] at hh
    simp only [] at hh
    split at hh
    ·rename_i hc
     obtain ⟨rfl,hgr⟩:=hc
     simp only [Option.some.injEq,Prod.mk.injEq] at hh
     obtain ⟨rfl,rfl⟩:=hh
     have hcs:=pairsOf_some hp
     subst hcs
     simp only [Rep] at hx
     obtain ⟨b,c,hb,rfl,hnc,_,sn,hsn,hsl⟩:=hx
     obtain ⟨b',cc,tt,q1,⟨fr,q2,qfr⟩,q3,q4,q5,qty,sn',hsn',hs1,hs2⟩:=hS.obj r _ hst
     rw [hb] at q1;cases q1
     rw [hsn] at hsn';cases hsn'
     have hpl:=pairCells_length l
     have hvals:=reps_pairs q4
     have hbl:b<w.heap.size:=(Array.getElem?_eq_some_iff.1 q2).1
     have hget:∀t,t<l.length * 2→cc[t]?=some (flatK encP 2 l.toArray)[t]! := by
      intro t ht
      rw [←flatK_get l t ht,←hvals,List.getElem?_take,if_pos (by omega)];simp
     have hH:HoldsK encP 2 w b 0 l.toArray:=by
      intro j hj
      simp only [size_flatK,List.size_toArray] at hj
      rw [cell_of_heap q2]
      refine ⟨by rw [Nat.zero_add];exact hget j hj,?_⟩
      have:=qfr (0+j) (by omega)
      simp only [World.frozen?,q2]
      simp only [Bool.and_eq_false_iff,decide_eq_false_iff_not]
      omega
     have hcon:=AnyQ.slices_SortFunc_total L 2 aE zE encP (fun _=>rfl) (fun x v hv=>by simp [encP] at hv;rcases hv with rfl | rfl<;>rfl) cf hO g' #[] b 0 c l.toArray w eg (hcmp _ _ _ _) hH hbl (by rw [List.size_toArray];exact Nat.lt_of_le_of_lt hgr (by decide)) hT
     simp only [List.size_toArray] at hcon
     refine hcon.mono fun e w' ⟨h1,nd,os,h2⟩=>?_
     rw [mergeSort_sortP hO hT] at h2
     generalize hl':sortP (ltOf cf) l=l' at h2 ⊢
     have hll:l'.length=l.length:=by rw [←hl'];exact (sortP_perm _ _).length_eq
     let w1:=putRowK encP 2 (Sort.ahead w nd) b 0 l'.toArray
     let c1:=Sort.putCells id 0 (flatK encP 2 l'.toArray) cc
     have hc1:c1.size=cc.size:=by simp [c1,Sort.putCells]
     have hg1:w1.heap[b]?=some (.cells c1 tt fr):=by
      simp only [w1,putRowK,putRow,mapBlock,Sort.ahead,Array.getElem?_modify,if_true,q2]
      rfl
     have hgo:∀b',b'≠b→w1.heap[b']?=w.heap[b']?:=by
      intro b' hb'
      simp only [w1,putRowK,putRow,mapBlock,Sort.ahead,Array.getElem?_modify]
      rw [if_neg (fun h=>hb' h.symm)]
     have hpl':=pairCells_length l'
     have htk:c1.toList.take (pairCells l').length=pairVals l':=by
      apply List.ext_getElem?
      intro t
      rw [List.getElem?_take]
      by_cases ht:t<l'.length * 2
      ·rw [if_pos (by omega),flatK_get l' t ht]
       have htc:t<cc.size:=by omega
       simp [c1,Sort.putCells,htc,ht]
      ·rw [if_neg (by omega),List.getElem?_eq_none (by rw [pairVals_length];omega)]
     have hS1:=hS.upd (w':=w1) (a:=.cells none (pairCells l')) hst hb rfl (by simp) rfl (by simp) rfl rfl (by simp [w1,putRowK,Sort.ahead]) hgo
      ⟨b,c1,tt,hb,⟨fr,hg1,by rw [hc1];exact qfr⟩,by omega,by rw [htk];exact pairs_reps l',pairCells_isCell l',(fun _ hT=>by cases hT),sn,hsn,by omega,by omega⟩
     have hk:Kept w1 w':=by
      subst h2
      refine ⟨rfl,rfl,by simp [sortWorldK,w1],fun b' hb'=>?_⟩
      exact heap_grow_old w1 os hb'
     exact ⟨J,Inj.le.refl J,hS1.keep hk,.tup [],.tuple #[],rfl,by simp [Rep,Reps],h1⟩
    ·cases hh
   ·cases hh
  ·cases hh
 ·cases hh
end Go.Proofs.YtefildelnccljaaGreat.Ai
namespace Go.Proofs.YtefildelnccljaaGreat.Ai
open Go
section
variable {A:AProg}
theorem task_of_aw_mut {f:FuncId} {F:AFunc} {args:List AV} {v:AV} {N:Nat} (hp:A.prim f=none) (hf:A.fn f=some F) (hk:F.keep=false) (hN:args.length+(F.ntmps-args.length)=N)
  {st st2:St} (hst:st2.all (AObj.lowB st.length)=true)
  (h:∀e:Env,e.length=N→(∀i,AX.ev e (.t i)=args.getD i .undef)→∀K:PostQ,
   (∀x e st',(x=.ret∨x=.nrm)→st'.take st.length=st2→(∃vs,resultsA st' e F.results=some vs∧AV.still st.length st' (oneOf vs)=some v)→K x e [] st')→AW A f none F.body e [] st K) :
  runL A (.call f args) st=some ⟨.ret,⟨[v],[]⟩,st2⟩:=by
 have hev:∀i,AX.ev (args++List.replicate (F.ntmps-args.length) .undef) (.t i)=args.getD i .undef:=by
  intro i
  simp only [AX.ev,List.getD_eq_getElem?_getD]
  by_cases hi:i<args.length
  ·rw [List.getElem?_append_left hi]
  ·rw [List.getElem?_append_right (by omega),List.getElem?_eq_none (by omega:args.length≤i),List.getElem?_replicate]
   split<;>rfl
 obtain ⟨x,e',ds',st',hx,h1,h2,h3,vs,h4,h5⟩:=h (args++List.replicate (F.ntmps-args.length) .undef) (by simpa using hN) hev
  (fun x e ds st'=>(x=.ret∨x=.nrm)∧ds=[]∧st'.take st.length=st2∧∃vs,resultsA st' e F.results=some vs∧AV.still st.length st' (oneOf vs)=some v)
  (fun x e st' h1 h2 h3=>⟨h1,rfl,h2,h3⟩)
 subst h2
 have hs:Ai.settle st.length (oneOf vs) st'=some (v,st2):=by
  simp only [Ai.settle,h5,h3,hst,if_true]
 rw [runL_eq];simp only [layer,hp,callFn,hf,hx,runDefs];rcases h1 with rfl | rfl<;>simp only [h4,hk,hs,Bool.false_eq_true,if_false]
theorem StOk.put {st:St} (h:StOk st) {r:Nat} {o:AObj} (ho:AObj.lowB st.length o=true):(st.set r o).all (AObj.lowB st.length)=true:=by
 have h:st.all (AObj.lowB st.length)=true:=h
 rw [List.all_eq_true] at h ⊢
 intro x hx
 rcases List.mem_or_eq_of_mem_set hx with hx | rfl
 ·exact h x hx
 ·exact ho
end
end Go.Proofs.YtefildelnccljaaGreat.Ai
namespace Go.Proofs.YtefildelnccljaaGreat.Ai
open Go
section
variable {A:AProg} {fn:FuncId} {rnd:Option Nat} {e:Env} {ds:List ADef} {st:St} {Q:PostQ}
theorem conda_split {a b:ACode} {t:Bool} (h1:t=true→AW A fn rnd a e ds st Q) (h2:t=false→AW A fn rnd b e ds st Q):CondA A fn rnd a b e ds st Q (.bool t):=by
 cases t
 ·exact conda_false.2 (h2 rfl)
 ·exact conda_true.2 (h1 rfl)
theorem grda_split {d:Option Nat} {op:AOp} {os:List AOper} {b:Bool} (h1:b=true→NxA A d os e ds st Q (opA op e st)) (h2:b=false→AWo A os (setDst d e .undef) ds st Q):GrdA A d op os e ds st Q (some b):=by
 cases b
 ·exact grda_false.2 (h2 rfl)
 ·exact grda_true.2 (h1 rfl)
theorem conda_splitn {a b:ACode} {t:Bool} (h1:t=false→AW A fn rnd a e ds st Q) (h2:t=true→AW A fn rnd b e ds st Q):CondA A fn rnd a b e ds st Q (.bool (!t)):=by
 cases t
 ·exact conda_true.2 (h1 rfl)
 ·exact conda_false.2 (h2 rfl)
theorem grda_splitn {d:Option Nat} {op:AOp} {os:List AOper} {b:Bool} (h1:b=false→NxA A d os e ds st Q (opA op e st)) (h2:b=true→AWo A os (setDst d e .undef) ds st Q):GrdA A d op os e ds st Q (some (!b)):=by
 cases b
 ·exact grda_true.2 (h1 rfl)
 ·exact grda_false.2 (h2 rfl)
theorem aw_assoc {a b c:ACode}:AW A fn rnd (.seq (.seq a b) c) e ds st Q↔AW A fn rnd (.seq a (.seq b c)) e ds st Q:=by
 simp only [aw_seq]
 constructor
 ·intro h;exact aw_mono h fun x e ds st h=>by cases x<;>first | exact h | (simp only [SeqQ,aw_seq] at h ⊢;exact h)
 ·intro h;exact aw_mono h fun x e ds st h=>by cases x<;>first | exact h | (simp only [SeqQ,aw_seq] at h ⊢;exact h)
theorem aw_join {a b:ACode} (R:Env→Prop) (h:AW A fn rnd a e ds st (fun x e2 ds2 st2=>x=.nrm∧ds2=ds∧st2=st∧R e2)) (g:∀e2,Same a.writes e e2→R e2→AW A fn rnd b e2 ds st Q):AW A fn rnd (.seq a b) e ds st Q:=by
 rw [aw_seq]
 refine aw_mono (aw_same h) ?_
 rintro x e2 ds2 st2 ⟨hs,rfl,rfl,rfl,hr⟩
 exact g e2 hs hr
end
end Go.Proofs.YtefildelnccljaaGreat.Ai
namespace Go.Proofs.YtefildelnccljaaGreat
open Go Go.Shelf Go.RowKit Go.Sort Go.Lib Ai
def cfF (x y:Int×Int):Int:=if Lib.compareInt x.2 y.2=0 then Lib.compareInt x.1 y.1 else Lib.compareInt x.2 y.2
def ltF (x y:Int×Int):Bool:=decide (x.2<y.2) || (decide (x.2=y.2) && decide (x.1<y.1))
theorem ltF_eq:ltOf cfF=ltF:=by
 funext x y
 unfold ltOf cfF ltF Lib.compareInt
 rcases Int.lt_trichotomy x.2 y.2 with h | h | h
 ·simp [h]
 ·have h1:¬x.2<y.2:=by omega
  have h2:¬y.2<x.2:=by omega
  simp only [h1,h2,h,if_false,if_true,decide_true,Bool.true_and,decide_false,Bool.false_or,Int.lt_irrefl]
  rcases Int.lt_trichotomy x.1 y.1 with g | g | g
  ·simp [g]
  ·simp [g]
  ·have g1:¬x.1<y.1:=by omega
   simp [g,g1]
 ·have h1:¬x.2<y.2:=by omega
  have h2:¬x.2=y.2:=by omega
  simp [h,h1,h2]
theorem ltF_swo:SWO ltF where
 irrefl x:=by simp [ltF]
 trans x y z h1 h2:=by simp [ltF] at *;omega
 ntrans x y z h1 h2:=by simp [ltF] at *;omega
theorem ltF_part (x y:Int×Int) (h1:ltF x y=false) (h2:ltF y x=false):x=y:=by
 simp [ltF] at *
 exact Prod.ext (by omega) (by omega)
theorem enters44:∀args w,(callFunc 44 args).run Tryz.prog w=.ok (.enter 44 args) w:=enters_of Tryz.func44 (by kernel_rfl) rfl
theorem enters45:∀args w,(callFunc 45 args).run Tryz.prog w=.ok (.enter 45 args) w:=enters_of Tryz.func45 (by kernel_rfl) rfl
theorem enters46:∀args w,(callFunc 46 args).run Tryz.prog w=.ok (.enter 46 args) w:=enters_of Tryz.func46 (by kernel_rfl) rfl
theorem enters155:∀args w,(callFunc 155 args).run Tryz.prog w=.ok (.enter 155 args) w:=enters_of Tryz.func155 (by kernel_rfl) rfl
theorem clone44 {gl:List (Nat×AV)} {A:AProg} {B:World→Prop} {args:List AV} {st:St} {o:AOut} {st':St} (hh:cloneA 2 16 args st=some (o,st')):TaskOk Tryz.prog gl A B (.call 44 args) st (outRes st' o) :=
 have ⟨i0,h1,h2,h3,h4⟩:=info_parts (P:=Tryz.prog) (e:=27) (z:=.agg #[.int .i64 0,.int .i64 0]) (size:=2) (bytes:=16) (by kernel_rfl)
 clone_task (ρ:=Tryz.clone44_ren) Tryz.clone44 i0 (.agg #[.int .i64 0,.int .i64 0]) 2 16 h1 h2 h3 h4 rfl (by decide) Tryz.sizeOf27 enters44 hh
theorem clone155 {gl:List (Nat×AV)} {A:AProg} {B:World→Prop} {args:List AV} {st:St} {o:AOut} {st':St} (hh:cloneA 1 8 args st=some (o,st')):TaskOk Tryz.prog gl A B (.call 155 args) st (outRes st' o) :=
 have ⟨i0,h1,h2,h3,h4⟩:=info_parts (P:=Tryz.prog) (e:=3) (z:=.int .i64 0) (size:=1) (bytes:=8) (by kernel_rfl)
 clone_task (ρ:=Tryz.clone155_ren) Tryz.clone155 i0 (.int .i64 0) 1 8 h1 h2 h3 h4 rfl (by decide) Tryz.sizeOf3 enters155 hh
theorem cmpLays46 (blk off size:Nat) (w:World):CmpLays Tryz.prog 46 #[] encP 2 cfF blk off size w :=
 fun _ _ _ _ x y=>closure46 x y _
theorem sort45 {gl:List (Nat×AV)} {A:AProg} {B:World→Prop} {args:List AV} {st:St} {o:AOut} {st':St} (hh:sortA 46 ltF args st=some (o,st')):TaskOk Tryz.prog gl A B (.call 45 args) st (outRes st' o):=by
 rw [←ltF_eq] at hh
 exact sort_task (ρ:=Tryz.sort45_ren) Tryz.sort45 Tryz.isAgg27 Tryz.sizeOf27 46 cfF (ltF_eq▸ltF_swo) (by rw [ltF_eq];exact ltF_part) enters46 cmpLays46 enters45 hh
end Go.Proofs.YtefildelnccljaaGreat
namespace Go.Proofs.YtefildelnccljaaGreat
open Go Ai
@[simp,reducible] def Ji (d:Nat) (o:AOp):AOper:=⟨some d,o,none⟩
@[simp,reducible] def Jm (d t:Nat):AOper:=⟨some d,.mov (.t t),none⟩
@[simp,reducible] def Jk (n:Int):AX:=.k (.int .i64 n)
@[simp,reducible] def Jf (n:Nat):AX:=.k (.func (.func n) [] [])
@[simp,reducible] def Jl (d t:Nat):AOper:=⟨some d,.load 1 false (.t t),none⟩
@[simp,reducible] def Jd (d o t:Nat):AOper:=⟨some d,.fieldAddr o 1 false (.t t),none⟩
@[simp,reducible] def Je (d t:Nat) (n:Int):AOper:=⟨some d,.bin .eql (.t t) (.k (.int .i64 n)),none⟩
@[simp,reducible] def Ja (d t:Nat):AOper:=⟨some d,.bin .add (.t t) (.k (.int .i64 1)),none⟩
@[simp,reducible] def Jn (d t:Nat):AOper:=⟨some d,.lenSl (.t t),none⟩
@[simp,reducible] def Jo (d m t:Nat):AOper:=⟨some d,.load m true (.t t),none⟩
@[simp,reducible] def Jx (d m t i:Nat):AOper:=⟨some d,.indexAddr m true none (.t t) (.t i),none⟩
@[simp,reducible] def Jg (d g:Nat) (o:AOp):AOper:=⟨some d,o,some (g,true)⟩
@[simp,reducible] def Jh (d g:Nat) (o:AOp):AOper:=⟨some d,o,some (g,false)⟩
@[simp,reducible] def Js (i:Nat) (o:AOper):AStep:=⟨i,o,[]⟩
def a2:AFunc:=⟨1,[],(.reg [Ji 0 (.call (Jf 1) [])]),[],false⟩
def a3_0:ACode:=(.seq (.seq (.reg [Jm 10 4,Jm 11 0,Jn 12 11,Ji 13 (.bin .lss (.t 10) (.t 12))]) (.cond (.t 13) .skip (.exit 0))) (.seq (.block 1 (.reg [Jm 16 3,Jm 17 0,Jm 18 4,Jx 19 2 17 18,Jo 20 2 19,Ji 21 (.call (Jf 15) [(.t 16),(.t 20)]),Jm 3 21])) (.reg [Jm 14 4,Ja 15 14,Jm 4 15])))
def a3:AFunc:=⟨26,[.tmp 2],(.seq (.reg [Ji 2 (.mov (.k (.bool false)))]) (.seq (.seq (.reg [Ji 5 (.call (Jf 14) []),Ji 6 (.un .not (.t 5))]) (.cond (.t 6) (.seq (.reg [Ji 2 (.mov (.k (.bool false)))]) .ret) .skip)) (.seq (.seq (.reg [Jm 7 0,Jn 8 7,Ji 9 (.bin .gtr (.t 8) (Jk 60))]) (.cond (.t 9) (.seq (.reg [Ji 2 (.mov (.k (.bool true)))]) .ret) .skip)) (.seq (.reg [Ji 3 (.mov (.k (.lst 2 [] .tight)))]) (.seq (.seq (.reg [Ji 4 (.mov (Jk 0))]) (.block 0 (.loop a3_0))) (.seq (.reg [Jm 22 0,Ji 23 (.call (Jf 17) [(.t 22)]),Jm 24 3,Ji 25 (.call (Jf 16) [(.t 23),(.t 24)]),Jm 2 25]) .ret)))))),[],false⟩
def a4:AFunc:=⟨32,[.tmp 2],(.seq (.reg [Ji 2 (.mov (.k (.bool false)))]) (.seq (.seq (.reg [Ji 4 (.call (Jf 14) []),Ji 5 (.un .not (.t 4))]) (.cond (.t 5) (.seq (.reg [Ji 2 (.mov (.k (.bool false)))]) .ret) .skip)) (.seq (.seq (.reg [Jm 6 0,Jn 7 6,Ji 8 (.bin .gtr (.t 7) (Jk 40))]) (.cond (.t 8) (.seq (.reg [Ji 2 (.mov (.k (.bool true)))]) .ret) .skip)) (.seq (.reg [Jm 9 0,Ji 10 (.call (Jf 17) [(.t 9)]),Jm 3 10]) (.seq (.reg [Jm 11 3,Ji 12 (.call (Jf 17) [(.t 11)]),Jm 13 3,Ji 14 (.call (Jf 16) [(.t 12),(.t 13)]),Jm 15 14,Jg 16 15 (.mkLit 2 [] [] false),Jg 17 15 (.mov (.t 0)),Jg 18 15 (.append 2 16 (some 27) (.t 16) (.t 17)),Jg 19 15 (.mov (.t 0)),Jg 20 15 (.append 2 16 (some 27) (.t 18) (.t 19)),Jg 21 15 (.call (Jf 17) [(.t 20)]),Jg 22 15 (.mov (.t 3)),Jg 23 15 (.call (Jf 16) [(.t 21),(.t 22)]),Ji 24 (.pick (.t 15) (.t 23) (.k (.bool false))),Jm 25 24,Jg 26 25 (.mov (.t 3)),Jg 27 25 (.lenSl (.t 26)),Jg 28 25 (.mov (.t 0)),Jg 29 25 (.lenSl (.t 28)),Jg 30 25 (.bin .leq (.t 27) (.t 29)),Ji 31 (.pick (.t 25) (.t 30) (.k (.bool false))),Jm 2 31]) .ret))))),[],false⟩
def a5:AFunc:=⟨31,[.tmp 2],(.seq (.reg [Ji 1 (.box 2 (.t 0) false),Ji 2 (.mov (.k (.bool false)))]) (.seq (.seq (.reg [Ji 3 (.call (Jf 14) []),Ji 4 (.un .not (.t 3))]) (.cond (.t 4) (.seq (.reg [Ji 2 (.mov (.k (.bool false)))]) .ret) .skip)) (.seq (.seq (.reg [Jo 5 2 1,Ji 6 (.call (Jf 18) [(.t 5)])]) (.cond (.t 6) (.seq (.reg [Ji 2 (.mov (.k (.bool true)))]) .ret) .skip)) (.seq (.seq (.reg [Jo 7 2 1,Ji 8 (.call (Jf 19) [(.t 7)]),Ji 9 (.un .not (.t 8))]) (.cond (.t 9) (.seq (.reg [Jo 10 2 1,Ji 11 (.call (Jf 20) [(.t 10)]),Jn 12 11,Je 13 12 0,Jm 14 13,Jg 15 14 (.load 2 true (.t 1)),Jg 16 14 (.call (Jf 21) [(.t 15)]),Jg 17 14 (.un .not (.t 16)),Ji 18 (.pick (.t 14) (.t 17) (.k (.bool false))),Jm 2 18]) .ret) .skip)) (.seq (.plan [Js 0 (Jo 19 2 1),Js 2 (Jo 21 2 1),⟨1,Ji 20 (.call (Jf 20) [(.t 19)]),[2]⟩,⟨3,Ji 22 (.call (Jf 22) [(.t 21)]),[]⟩,⟨4,Ji 23 (.call (Jf 16) [(.t 20),(.t 22)]),[]⟩,Js 5 (Jm 24 23),Js 6 (Jg 25 24 (.load 2 true (.t 1))),Js 8 (Jg 27 24 (.load 2 true (.t 1))),⟨7,Jg 26 24 (.call (Jf 21) [(.t 25)]),[8]⟩,⟨9,Jg 28 24 (.call (Jf 23) [(.t 27)]),[]⟩,Js 10 (Jg 29 24 (.eqBool false (.t 26) (.t 28))),Js 11 (Ji 30 (.pick (.t 24) (.t 29) (.k (.bool false)))),Js 12 (Jm 2 30)]) .ret))))),[],false⟩
def a6_0:ACode:=(.seq (.seq (.reg [Jm 23 7,Jd 24 0 3,Jl 25 24,Jn 26 25,Ji 27 (.bin .lss (.t 23) (.t 26))]) (.cond (.t 27) .skip (.exit 0))) (.seq (.block 1 (.seq (.reg [Jd 30 0 3,Jl 31 30,Jm 32 7,Jx 33 7 31 32,Jd 34 0 33,Jl 35 34,Je 36 35 3]) (.cond (.t 36) (.reg [Jm 37 6,Ja 38 37,Jm 6 38]) .skip))) (.reg [Jm 28 7,Ja 29 28,Jm 7 29])))
def a6:AFunc:=⟨53,[.tmp 2],(.seq (.reg [Ji 2 (.mov (.k (.bool false)))]) (.seq (.seq (.reg [Ji 8 (.call (Jf 14) []),Ji 9 (.un .not (.t 8))]) (.cond (.t 9) (.seq (.reg [Ji 2 (.mov (.k (.bool false)))]) .ret) .skip)) (.seq (.reg [Jm 11 0,Ji 12 (.call (Jf 24) [(.t 11),(.k (.bool false))]),Jm 10 12,Ji 13 (.extract (.t 10) 0),Ji 14 (.extract (.t 10) 1),Ji 15 (.extract (.t 10) 2),Ji 3 (.new (.agg [(.lst 7 [] .tight),(.lst 9 [] .tight)]) true none),Ji 5 (.new (.agg [(.int .i64 0),(.int .i64 0)]) true none),⟨none,.store 2 (.t 3) (.t 13),none⟩,Jm 4 14,⟨none,.store 2 (.t 5) (.t 15),none⟩]) (.seq (.seq (.reg [Jd 16 0 5,Jl 17 16,Ji 18 (.bin .neq (.t 17) (Jk 0)),Jm 19 18,Jh 20 19 (.load 2 true (.t 3)),Jh 21 19 (.call (Jf 18) [(.t 20)]),Ji 22 (.pick (.t 19) (.k (.bool true)) (.t 21))]) (.cond (.t 22) (.seq (.reg [Ji 2 (.mov (.k (.bool true)))]) .ret) .skip)) (.seq (.reg [Ji 6 (.mov (Jk 0))]) (.seq (.seq (.reg [Ji 7 (.mov (Jk 0))]) (.block 0 (.loop a6_0))) (.seq (.plan [Js 0 (Jo 39 2 3),Js 2 (Jo 41 2 3),⟨1,Ji 40 (.call (Jf 20) [(.t 39)]),[2]⟩,⟨3,Ji 42 (.call (Jf 22) [(.t 41)]),[]⟩,⟨4,Ji 43 (.call (Jf 16) [(.t 40),(.t 42)]),[]⟩,Js 5 (Jm 44 43),Js 6 (Jg 45 44 (.load 2 true (.t 3))),⟨7,Jg 46 44 (.call (Jf 21) [(.t 45)]),[]⟩,Js 8 (Jg 47 44 (.un .not (.t 46))),Js 9 (Jg 48 44 (.mov (.t 47))),Js 10 (Jh 49 48 (.mov (.t 6))),Js 11 (Jh 50 48 (.bin .eql (.t 49) (Jk 1))),Js 12 (Jg 51 44 (.pick (.t 48) (.k (.bool true)) (.t 50))),Js 13 (Ji 52 (.pick (.t 44) (.t 51) (.k (.bool false)))),Js 14 (Jm 2 52)]) .ret))))))),[],false⟩
def a9:AFunc:=⟨31,[.tmp 2],(.seq (.reg [Ji 2 (.mov (.k (.bool false)))]) (.seq (.seq (.reg [Ji 6 (.call (Jf 33) []),Ji 7 (.un .not (.t 6))]) (.cond (.t 7) (.seq (.reg [Ji 2 (.mov (.k (.bool false)))]) .ret) .skip)) (.seq (.reg [Jm 9 0,Ji 10 (.call (Jf 24) [(.t 9),(.k (.bool false))]),Jm 8 10,Ji 11 (.extract (.t 8) 0),Ji 12 (.extract (.t 8) 1),Ji 13 (.extract (.t 8) 2),Ji 3 (.new (.agg [(.lst 7 [] .tight),(.lst 9 [] .tight)]) true none),Ji 5 (.new (.agg [(.int .i64 0),(.int .i64 0)]) true none),⟨none,.store 2 (.t 3) (.t 11),none⟩,Jm 4 12,⟨none,.store 2 (.t 5) (.t 13),none⟩]) (.seq (.seq (.reg [Jd 14 0 5,Jl 15 14,Ji 16 (.bin .neq (.t 15) (Jk 0)),Jm 17 16,Jh 18 17 (.load 2 true (.t 3)),Jh 19 17 (.call (Jf 34) [(.t 18)]),Ji 20 (.pick (.t 17) (.k (.bool true)) (.t 19)),Jm 21 20,Jh 22 21 (.load 2 true (.t 3)),Jh 23 21 (.call (Jf 23) [(.t 22)]),Jh 24 21 (.un .not (.t 23)),Ji 25 (.pick (.t 21) (.k (.bool true)) (.t 24))]) (.cond (.t 25) (.seq (.reg [Ji 2 (.mov (.k (.bool true)))]) .ret) .skip)) (.seq (.plan [Js 0 (Jo 26 2 3),Js 2 (Jo 28 2 3),⟨1,Ji 27 (.call (Jf 35) [(.t 26)]),[2]⟩,⟨3,Ji 29 (.call (Jf 36) [(.t 28)]),[]⟩,⟨4,Ji 30 (.call (Jf 16) [(.t 27),(.t 29)]),[]⟩,Js 5 (Jm 2 30)]) .ret))))),[],false⟩
def a11_0:ACode:=(.seq (.seq (.reg [Jm 54 9,Jm 55 7,Jn 56 55,Ji 57 (.bin .lss (.t 54) (.t 56))]) (.cond (.t 57) .skip (.exit 2))) (.seq (.block 3 (.seq (.reg [Jd 60 1 3,Jl 61 60,Jm 62 9,Jx 63 9 61 62,Jo 64 9 63,Ji 10 (.new (.agg [(.int .i64 0),(.int .i64 0),(.int .i64 0),(.int .i64 0),(.str []),(.str []),(.int .i64 0),(.lst 1 [] .tight),(.int .i64 0)]) true none),⟨none,.store 9 (.t 10) (.t 64),none⟩]) (.seq (.seq (.reg [Jm 65 7,Jm 66 9,Ji 67 (.indexAddr 1 false none (.t 65) (.t 66)),Jl 68 67,Ji 69 (.un .not (.t 68))]) (.cond (.t 69) (.exit 3) .skip)) (.seq (.plan [Js 0 (Jm 70 8),Js 1 (Jm 71 9),Js 2 (Ji 72 (.indexAddr 1 false none (.t 70) (.t 71))),Js 3 (Jl 73 72),Js 4 (Ji 74 (.bin .neq (.t 73) (Jk 1))),Js 5 (Jm 75 74),Js 6 (Jg 76 75 (.mov (.t 8))),Js 7 (Jg 77 75 (.mov (.t 9))),Js 8 (Jg 78 75 (.indexAddr 1 false none (.t 76) (.t 77))),Js 9 (Jg 79 75 (.load 1 false (.t 78))),Js 10 (Jg 80 75 (.bin .neq (.t 79) (Jk 2))),Js 11 (Ji 81 (.pick (.t 75) (.t 80) (.k (.bool false)))),Js 12 (Jm 82 81),Js 13 (Jh 83 82 (.fieldAddr 0 1 false (.t 10))),Js 14 (Jh 84 82 (.load 1 false (.t 83))),Js 15 (Jh 85 82 (.bin .eql (.t 84) (Jk 15))),Js 16 (Jh 86 82 (.mov (.t 85))),Js 17 (Jg 87 86 (.mov (.t 8))),Js 18 (Jg 88 86 (.fieldAddr 1 1 false (.t 10))),Js 19 (Jg 89 86 (.load 1 false (.t 88))),Js 20 (Jg 90 86 (.indexAddr 1 false none (.t 87) (.t 89))),Js 21 (Jg 91 86 (.load 1 false (.t 90))),Js 22 (Jg 92 86 (.bin .neq (.t 91) (Jk 2))),Js 23 (Jg 93 86 (.mov (.t 92))),Js 24 (Jh 94 93 (.mov (.t 8))),Js 25 (Jh 95 93 (.fieldAddr 2 1 false (.t 10))),Js 26 (Jh 96 93 (.load 1 false (.t 95))),Js 27 (Jh 97 93 (.indexAddr 1 false none (.t 94) (.t 96))),Js 28 (Jh 98 93 (.load 1 false (.t 97))),Js 29 (Jh 99 93 (.mov (.t 8))),Js 30 (Jh 100 93 (.fieldAddr 3 1 false (.t 10))),Js 31 (Jh 101 93 (.load 1 false (.t 100))),Js 32 (Jh 102 93 (.indexAddr 1 false none (.t 99) (.t 101))),Js 33 (Jh 103 93 (.load 1 false (.t 102))),Js 34 (Jh 104 93 (.bin .neq (.t 98) (.t 103))),Js 35 (Jg 105 86 (.pick (.t 93) (.k (.bool true)) (.t 104))),Js 36 (Jg 106 86 (.mov (.t 105))),Js 37 (Jh 107 106 (.mov (.t 8))),Js 38 (Jh 108 106 (.mov (.t 9))),Js 39 (Jh 109 106 (.indexAddr 1 false none (.t 107) (.t 108))),Js 40 (Jh 110 106 (.load 1 false (.t 109))),Js 41 (Jh 111 106 (.mov (.t 8))),Js 42 (Jh 112 106 (.fieldAddr 2 1 false (.t 10))),Js 43 (Jh 113 106 (.load 1 false (.t 112))),Js 44 (Jh 114 106 (.indexAddr 1 false none (.t 111) (.t 113))),Js 45 (Jh 115 106 (.load 1 false (.t 114))),Js 46 (Jh 116 106 (.bin .neq (.t 110) (.t 115))),Js 47 (Jg 117 86 (.pick (.t 106) (.k (.bool true)) (.t 116))),Js 48 (Jh 118 82 (.pick (.t 86) (.t 117) (.k (.bool false)))),Js 49 (Ji 119 (.pick (.t 82) (.k (.bool true)) (.t 118))),Js 50 (Jm 120 119),Js 51 (Jh 121 120 (.fieldAddr 0 1 false (.t 10))),Js 52 (Jh 122 120 (.load 1 false (.t 121))),Js 53 (Jh 123 120 (.bin .eql (.t 122) (Jk 6))),Js 54 (Jh 124 120 (.mov (.t 123))),Js 55 (Jg 125 124 (.mov (.t 8))),Js 56 (Jg 126 124 (.fieldAddr 1 1 false (.t 10))),Js 57 (Jg 127 124 (.load 1 false (.t 126))),Js 58 (Jg 128 124 (.indexAddr 1 false none (.t 125) (.t 127))),Js 59 (Jg 129 124 (.load 1 false (.t 128))),Js 60 (Jg 130 124 (.bin .neq (.t 129) (Jk 1))),Js 61 (Jg 131 124 (.mov (.t 130))),Js 62 (Jh 132 131 (.mov (.t 8))),Js 63 (Jh 133 131 (.fieldAddr 2 1 false (.t 10))),Js 64 (Jh 134 131 (.load 1 false (.t 133))),Js 65 (Jh 135 131 (.indexAddr 1 false none (.t 132) (.t 134))),Js 66 (Jh 136 131 (.load 1 false (.t 135))),Js 67 (Jh 137 131 (.bin .neq (.t 136) (Jk 1))),Js 68 (Jg 138 124 (.pick (.t 131) (.k (.bool true)) (.t 137))),Js 69 (Jh 139 120 (.pick (.t 124) (.t 138) (.k (.bool false)))),Js 70 (Ji 140 (.pick (.t 120) (.k (.bool true)) (.t 139))),Js 71 (Jm 141 140),Js 72 (Jh 142 141 (.fieldAddr 0 1 false (.t 10))),Js 73 (Jh 143 141 (.load 1 false (.t 142))),Js 74 (Jh 144 141 (.bin .eql (.t 143) (Jk 18))),Js 75 (Jh 145 141 (.mov (.t 144))),Js 76 (Jg 146 145 (.mov (.t 8))),Js 77 (Jg 147 145 (.fieldAddr 1 1 false (.t 10))),Js 78 (Jg 148 145 (.load 1 false (.t 147))),Js 79 (Jg 149 145 (.indexAddr 1 false none (.t 146) (.t 148))),Js 80 (Jg 150 145 (.load 1 false (.t 149))),Js 81 (Jg 151 145 (.mov (.t 8))),Js 82 (Jg 152 145 (.fieldAddr 2 1 false (.t 10))),Js 83 (Jg 153 145 (.load 1 false (.t 152))),Js 84 (Jg 154 145 (.indexAddr 1 false none (.t 151) (.t 153))),Js 85 (Jg 155 145 (.load 1 false (.t 154))),Js 86 (Jg 156 145 (.bin .neq (.t 150) (.t 155))),Js 87 (Jh 157 141 (.pick (.t 145) (.t 156) (.k (.bool false)))),Js 88 (Ji 158 (.pick (.t 141) (.k (.bool true)) (.t 157)))]) (.cond (.t 158) (.seq (.reg [Ji 2 (.mov (.k (.bool false)))]) .ret) .skip))))) (.reg [Jm 58 9,Ja 59 58,Jm 9 59])))
def a11_1:ACode:=(.seq (.seq (.reg [Jm 31 6,Jd 32 0 3,Jl 33 32,Jn 34 33,Ji 35 (.bin .lss (.t 31) (.t 34))]) (.cond (.t 35) .skip (.exit 0))) (.seq (.block 1 (.seq (.plan [Js 0 (Jo 38 2 3),Js 1 (Jd 39 0 3),Js 2 (Jl 40 39),Js 3 (Jm 41 6),Js 4 (Jx 42 7 40 41),Js 5 (Jo 43 7 42),⟨6,Ji 44 (.call (Jf 39) [(.t 38),(.t 43)]),[]⟩,Js 7 (Jm 7 44)]) (.seq (.reg [Jo 45 2 3,Jm 46 6,Ji 47 (.call (Jf 40) [(.t 45),(.t 46)]),Jm 8 47]) (.seq (.seq (.reg [Jm 48 8,Jn 49 48,Jd 50 1 3,Jl 51 50,Jn 52 51,Ji 53 (.bin .neq (.t 49) (.t 52))]) (.cond (.t 53) (.seq (.reg [Ji 2 (.mov (.k (.bool false)))]) .ret) .skip)) (.seq (.reg [Ji 9 (.mov (Jk 0))]) (.block 2 (.loop a11_0))))))) (.reg [Jm 36 6,Ja 37 36,Jm 6 37])))
def a11:AFunc:=⟨159,[.tmp 2],(.seq (.reg [Ji 2 (.mov (.k (.bool false)))]) (.seq (.seq (.reg [Ji 11 (.call (Jf 33) []),Ji 12 (.un .not (.t 11))]) (.cond (.t 12) (.seq (.reg [Ji 2 (.mov (.k (.bool false)))]) .ret) .skip)) (.seq (.reg [Jm 14 0,Ji 15 (.call (Jf 24) [(.t 14),(.k (.bool false))]),Jm 13 15,Ji 16 (.extract (.t 13) 0),Ji 17 (.extract (.t 13) 1),Ji 18 (.extract (.t 13) 2),Ji 3 (.new (.agg [(.lst 7 [] .tight),(.lst 9 [] .tight)]) true none),Ji 5 (.new (.agg [(.int .i64 0),(.int .i64 0)]) true none),⟨none,.store 2 (.t 3) (.t 16),none⟩,Jm 4 17,⟨none,.store 2 (.t 5) (.t 18),none⟩]) (.seq (.seq (.reg [Jd 19 0 5,Jl 20 19,Ji 21 (.bin .neq (.t 20) (Jk 0)),Jm 22 21,Jh 23 22 (.load 2 true (.t 3)),Jh 24 22 (.call (Jf 34) [(.t 23)]),Ji 25 (.pick (.t 22) (.k (.bool true)) (.t 24)),Jm 26 25,Jh 27 26 (.load 2 true (.t 3)),Jh 28 26 (.call (Jf 37) [(.t 27)]),Jh 29 26 (.un .not (.t 28)),Ji 30 (.pick (.t 26) (.k (.bool true)) (.t 29))]) (.cond (.t 30) (.seq (.reg [Ji 2 (.mov (.k (.bool true)))]) .ret) .skip)) (.seq (.seq (.reg [Ji 6 (.mov (Jk 0))]) (.block 0 (.loop a11_1))) (.seq (.reg [Ji 2 (.mov (.k (.bool true)))]) .ret)))))),[],false⟩
def a14:AFunc:=⟨34,[.tmp 0],(.seq (.reg [Ji 0 (.mov (.k (.bool false)))]) (.seq (.reg [Ji 6 (.call (Jf 24) [(.k (.str [104,121,98,114,105,100,32,109,40,41,32,123,32,111,117,116,32,120,59,32,125])),(.k (.bool false))]),Jm 5 6,Ji 7 (.extract (.t 5) 0),Ji 8 (.extract (.t 5) 1),Ji 9 (.extract (.t 5) 2),Ji 1 (.new (.agg [(.lst 7 [] .tight),(.lst 9 [] .tight)]) true none),Ji 3 (.new (.agg [(.int .i64 0),(.int .i64 0)]) true none),⟨none,.store 2 (.t 1) (.t 7),none⟩,Jm 2 8,⟨none,.store 2 (.t 3) (.t 9),none⟩]) (.seq (.reg [Jo 10 2 1,Ji 11 (.call (Jf 20) [(.t 10)]),Jm 4 11]) (.seq (.reg [Jd 12 0 3,Jl 13 12,Je 14 13 0,Jm 15 14,Jg 16 15 (.mov (.t 4)),Jg 17 15 (.lenSl (.t 16)),Jg 18 15 (.bin .eql (.t 17) (Jk 1)),Ji 19 (.pick (.t 15) (.t 18) (.k (.bool false))),Jm 20 19,Jg 21 20 (.mov (.t 4)),Jg 22 20 (.indexAddr 2 true none (.t 21) (Jk 0)),Jg 23 20 (.fieldAddr 0 1 false (.t 22)),Jg 24 20 (.load 1 false (.t 23)),Jg 25 20 (.bin .eql (.t 24) (Jk 4)),Ji 26 (.pick (.t 20) (.t 25) (.k (.bool false))),Jm 27 26,Jg 28 27 (.mov (.t 4)),Jg 29 27 (.indexAddr 2 true none (.t 28) (Jk 0)),Jg 30 27 (.fieldAddr 1 1 false (.t 29)),Jg 31 27 (.load 1 false (.t 30)),Jg 32 27 (.bin .eql (.t 31) (Jk 13)),Ji 33 (.pick (.t 27) (.t 32) (.k (.bool false))),Jm 0 33]) .ret)))),[],false⟩
def a15_0:ACode:=(.seq (.seq (.reg [Jm 8 7,Jm 9 0,Jn 10 9,Ji 11 (.bin .lss (.t 8) (.t 10))]) (.cond (.t 11) .skip (.exit 0))) (.seq (.block 1 (.seq (.seq (.plan [Js 0 (Jm 14 0),Js 1 (Jm 15 7),Js 2 (Jx 16 2 14 15),Js 3 (Jo 17 2 16),Js 4 (Jo 18 2 3),⟨5,Ji 19 (.eqAgg [0,0] false (.t 17) (.t 18)),[]⟩]) (.cond (.t 19) (.seq (.reg [Jm 20 0,Jm 4 20]) .ret) .skip)) (.seq (.seq (.plan [Js 0 (Jm 21 6),Js 1 (Ji 22 (.un .not (.t 21))),Js 2 (Jm 23 22),Js 3 (Jg 24 23 (.mov (.t 0))),Js 4 (Jg 25 23 (.mov (.t 7))),Js 5 (Jg 26 23 (.indexAddr 2 true none (.t 24) (.t 25))),Js 6 (Jg 27 23 (.fieldAddr 1 1 false (.t 26))),Js 7 (Jg 28 23 (.load 1 false (.t 27))),Js 8 (Jg 29 23 (.fieldAddr 1 1 false (.t 3))),Js 9 (Jg 30 23 (.load 1 false (.t 29))),Js 10 (Jg 31 23 (.bin .gtr (.t 28) (.t 30))),Js 11 (Jg 32 23 (.mov (.t 31))),Js 12 (Jh 33 32 (.mov (.t 0))),Js 13 (Jh 34 32 (.mov (.t 7))),Js 14 (Jh 35 32 (.indexAddr 2 true none (.t 33) (.t 34))),Js 15 (Jh 36 32 (.fieldAddr 1 1 false (.t 35))),Js 16 (Jh 37 32 (.load 1 false (.t 36))),Js 17 (Jh 38 32 (.fieldAddr 1 1 false (.t 3))),Js 18 (Jh 39 32 (.load 1 false (.t 38))),Js 19 (Jh 40 32 (.bin .eql (.t 37) (.t 39))),Js 20 (Jh 41 32 (.mov (.t 40))),Js 21 (Jg 42 41 (.mov (.t 0))),Js 22 (Jg 43 41 (.mov (.t 7))),Js 23 (Jg 44 41 (.indexAddr 2 true none (.t 42) (.t 43))),Js 24 (Jg 45 41 (.fieldAddr 0 1 false (.t 44))),Js 25 (Jg 46 41 (.load 1 false (.t 45))),Js 26 (Jg 47 41 (.fieldAddr 0 1 false (.t 3))),Js 27 (Jg 48 41 (.load 1 false (.t 47))),Js 28 (Jg 49 41 (.bin .gtr (.t 46) (.t 48))),Js 29 (Jh 50 32 (.pick (.t 41) (.t 49) (.k (.bool false)))),Js 30 (Jg 51 23 (.pick (.t 32) (.k (.bool true)) (.t 50))),Js 31 (Ji 52 (.pick (.t 23) (.t 51) (.k (.bool false))))]) (.cond (.t 52) (.seq (.reg [Jm 53 5,Jo 54 2 3,Ji 55 (.mkLit 2 [(.int .i64 0),(.int .i64 0)] [(0,2,(.t 54))] false),Ji 56 (.append 2 16 (some 27) (.t 53) (.t 55)),Jm 5 56]) (.reg [Ji 6 (.mov (.k (.bool true)))])) .skip)) (.reg [Jm 57 5,Jm 58 0,Jm 59 7,Jx 60 2 58 59,Jo 61 2 60,Ji 62 (.mkLit 2 [(.int .i64 0),(.int .i64 0)] [(0,2,(.t 61))] false),Ji 63 (.append 2 16 (some 27) (.t 57) (.t 62)),Jm 5 63])))) (.reg [Jm 12 7,Ja 13 12,Jm 7 13])))
def a15:AFunc:=⟨71,[.tmp 4],(.seq (.reg [Ji 3 (.box 2 (.t 1) false),Ji 4 (.mov (.k (.lst 2 [] .tight)))]) (.seq (.reg [Ji 5 (.mov (.k (.lst 2 [] .tight)))]) (.seq (.reg [Ji 6 (.mov (.k (.bool false)))]) (.seq (.seq (.reg [Ji 7 (.mov (Jk 0))]) (.block 0 (.loop a15_0))) (.seq (.seq (.reg [Jm 64 6,Ji 65 (.un .not (.t 64))]) (.cond (.t 65) (.reg [Jm 66 5,Jo 67 2 3,Ji 68 (.mkLit 2 [(.int .i64 0),(.int .i64 0)] [(0,2,(.t 67))] false),Ji 69 (.append 2 16 (some 27) (.t 66) (.t 68)),Jm 5 69]) .skip)) (.seq (.reg [Jm 70 5,Jm 4 70]) .ret)))))),[],false⟩
def a16_0:ACode:=(.seq (.seq (.reg [Jm 11 5,Jm 12 0,Jn 13 12,Ji 14 (.bin .lss (.t 11) (.t 13))]) (.cond (.t 14) .skip (.exit 0))) (.seq (.block 1 (.seq (.plan [Js 0 (Jm 17 0),Js 1 (Jm 18 5),Js 2 (Jx 19 2 17 18),Js 3 (Jo 20 2 19),Js 4 (Jm 21 1),Js 5 (Jm 22 5),Js 6 (Jx 23 2 21 22),Js 7 (Jo 24 2 23),⟨8,Ji 25 (.eqAgg [0,0] true (.t 20) (.t 24)),[]⟩]) (.cond (.t 25) (.seq (.reg [Ji 4 (.mov (.k (.bool false)))]) .ret) .skip))) (.reg [Jm 15 5,Ja 16 15,Jm 5 16])))
def a16:AFunc:=⟨26,[.tmp 4],(.seq (.reg [Ji 4 (.mov (.k (.bool false)))]) (.seq (.seq (.reg [Jm 6 0,Jn 7 6,Jm 8 1,Jn 9 8,Ji 10 (.bin .neq (.t 7) (.t 9))]) (.cond (.t 10) (.seq (.reg [Ji 4 (.mov (.k (.bool false)))]) .ret) .skip)) (.seq (.seq (.reg [Ji 5 (.mov (Jk 0))]) (.block 0 (.loop a16_0))) (.seq (.reg [Ji 4 (.mov (.k (.bool true)))]) .ret)))),[],false⟩
def a17:AFunc:=⟨10,[.tmp 2],(.seq (.reg [Ji 2 (.mov (.k (.lst 2 [] .tight)))]) (.seq (.reg [Jm 4 0,Ji 5 (.call (Jf 44) [(.t 4)]),Jm 3 5]) (.seq (.reg [Jm 6 3,Ji 7 (.call (Jf 45) [(.t 6),(Jf 46)])]) (.seq (.reg [Jm 8 3,Ji 9 (.call (Jf 50) [(.t 8)]),Jm 2 9]) .ret)))),[],false⟩
def a18_0:ACode:=(.seq (.seq (.reg [Jm 76 6,Jd 77 0 1,Jl 78 77,Jm 79 5,Jx 80 7 78 79,Jd 81 3 80,Jl 82 81,Jn 83 82,Ji 84 (.bin .lss (.t 76) (.t 83)),Jm 85 84,Jg 86 85 (.mov (.t 6)),Jg 87 85 (.bin .lss (.t 86) (Jk 1000)),Ji 88 (.pick (.t 85) (.t 87) (.k (.bool false)))]) (.cond (.t 88) .skip (.exit 4))) (.seq (.block 5 (.reg [Jm 91 3,Ja 92 91,Jd 93 0 1,Jl 94 93,Jm 95 5,Jx 96 7 94 95,Jd 97 3 96,Jl 98 97,Jm 99 6,Jx 100 9 98 99,Jd 101 5 100,Jl 102 101,Jn 103 102,Ji 104 (.bin .add (.t 92) (.t 103)),Jm 3 104])) (.reg [Jm 89 6,Ja 90 89,Jm 6 90])))
def a18_1:ACode:=(.seq (.seq (.reg [Jm 51 5,Jd 52 0 1,Jl 53 52,Jn 54 53,Ji 55 (.bin .lss (.t 51) (.t 54))]) (.cond (.t 55) .skip (.exit 2))) (.seq (.block 3 (.seq (.plan [Js 0 (Jm 58 3),Js 1 (Jd 59 0 1),Js 2 (Jl 60 59),Js 3 (Jm 61 5),Js 4 (Jx 62 7 60 61),Js 5 (Jd 63 2 62),Js 6 (Jl 64 63),Js 7 (Jn 65 64),Js 8 (Ji 66 (.bin .add (.t 58) (.t 65))),Js 9 (Jd 67 0 1),Js 10 (Jl 68 67),Js 11 (Jm 69 5),Js 12 (Jx 70 7 68 69),Js 13 (Jd 71 1 70),Js 14 (Jl 72 71),Js 15 (Ji 73 (.lenStr (.t 72))),Js 16 (Ji 74 (.bin .quo (.t 73) (Jk 100))),Js 17 (Ji 75 (.bin .add (.t 66) (.t 74))),Js 18 (Jm 3 75)]) (.seq (.reg [Ji 6 (.mov (Jk 0))]) (.block 4 (.loop a18_0))))) (.reg [Jm 56 5,Ja 57 56,Jm 5 57])))
def a18_2:ACode:=(.seq (.seq (.reg [Jm 17 4,Jd 18 1 1,Jl 19 18,Jn 20 19,Ji 21 (.bin .lss (.t 17) (.t 20))]) (.cond (.t 21) .skip (.exit 0))) (.seq (.block 1 (.plan [Js 0 (Jm 24 3),Js 1 (Jd 25 1 1),Js 2 (Jl 26 25),Js 3 (Jm 27 4),Js 4 (Jx 28 9 26 27),Js 5 (Jd 29 7 28),Js 6 (Jl 30 29),Js 7 (Jn 31 30),Js 8 (Ji 32 (.bin .add (.t 24) (.t 31))),Js 9 (Jd 33 1 1),Js 10 (Jl 34 33),Js 11 (Jm 35 4),Js 12 (Jx 36 9 34 35),Js 13 (Jd 37 4 36),Js 14 (Jl 38 37),Js 15 (Ji 39 (.lenStr (.t 38))),Js 16 (Ji 40 (.bin .quo (.t 39) (Jk 100))),Js 17 (Ji 41 (.bin .add (.t 32) (.t 40))),Js 18 (Jd 42 1 1),Js 19 (Jl 43 42),Js 20 (Jm 44 4),Js 21 (Jx 45 9 43 44),Js 22 (Jd 46 5 45),Js 23 (Jl 47 46),Js 24 (Ji 48 (.lenStr (.t 47))),Js 25 (Ji 49 (.bin .quo (.t 48) (Jk 100))),Js 26 (Ji 50 (.bin .add (.t 41) (.t 49))),Js 27 (Jm 3 50)])) (.reg [Jm 22 4,Ja 23 22,Jm 4 23])))
def a18:AFunc:=⟨107,[.tmp 2],(.seq (.reg [Ji 1 (.box 2 (.t 0) false),Ji 2 (.mov (.k (.bool false)))]) (.seq (.seq (.reg [Jd 7 1 1,Jl 8 7,Jn 9 8,Ji 10 (.bin .gtr (.t 9) (Jk 300)),Jm 11 10,Jh 12 11 (.fieldAddr 0 1 false (.t 1)),Jh 13 11 (.load 1 false (.t 12)),Jh 14 11 (.lenSl (.t 13)),Jh 15 11 (.bin .gtr (.t 14) (Jk 60)),Ji 16 (.pick (.t 11) (.k (.bool true)) (.t 15))]) (.cond (.t 16) (.seq (.reg [Ji 2 (.mov (.k (.bool true)))]) .ret) .skip)) (.seq (.reg [Ji 3 (.mov (Jk 0))]) (.seq (.seq (.reg [Ji 4 (.mov (Jk 0))]) (.block 0 (.loop a18_2))) (.seq (.seq (.reg [Ji 5 (.mov (Jk 0))]) (.block 2 (.loop a18_1))) (.seq (.reg [Jm 105 3,Ji 106 (.bin .gtr (.t 105) (Jk 600)),Jm 2 106]) .ret)))))),[],false⟩
def a19_0:ACode:=(.seq (.seq (.reg [Jm 29 4,Jd 30 0 1,Jl 31 30,Jm 32 3,Jx 33 7 31 32,Jd 34 3 33,Jl 35 34,Jn 36 35,Ji 37 (.bin .lss (.t 29) (.t 36))]) (.cond (.t 37) .skip (.exit 2))) (.seq (.block 3 (.seq (.reg [Jd 40 0 1,Jl 41 40,Jm 42 3,Jx 43 7 41 42,Jd 44 3 43,Jl 45 44,Jm 46 4,Jx 47 9 45 46,Jo 48 9 47,Ji 5 (.new (.agg [(.int .i64 0),(.str []),(.int .i64 0),(.int .i64 0),(.int .i64 0),(.lst 1 [] .tight),(.str []),(.str []),(.int .i64 0)]) true none),⟨none,.store 9 (.t 5) (.t 48),none⟩]) (.seq (.reg [Jd 49 0 5,Jl 50 49,Ji 51 (.bin .lss (.t 50) (Jk 1)),Jm 52 51,Jh 53 52 (.fieldAddr 0 1 false (.t 5)),Jh 54 52 (.load 1 false (.t 53)),Jh 55 52 (.bin .gtr (.t 54) (Jk 8)),Ji 56 (.pick (.t 52) (.k (.bool true)) (.t 55)),Jm 57 56,Jh 58 57 (.fieldAddr 0 1 false (.t 1)),Jh 59 57 (.load 1 false (.t 58)),Jh 60 57 (.mov (.t 3)),Jh 61 57 (.indexAddr 7 true none (.t 59) (.t 60)),Jh 62 57 (.fieldAddr 0 1 false (.t 61)),Jh 63 57 (.load 1 false (.t 62)),Jh 64 57 (.bin .lss (.t 63) (Jk 3)),Jh 65 57 (.mov (.t 64)),Jg 66 65 (.fieldAddr 0 1 false (.t 5)),Jg 67 65 (.load 1 false (.t 66)),Jg 68 65 (.bin .neq (.t 67) (Jk 1)),Jh 69 57 (.pick (.t 65) (.t 68) (.k (.bool false))),Ji 70 (.pick (.t 57) (.k (.bool true)) (.t 69)),Jm 71 70,Jh 72 71 (.fieldAddr 0 1 false (.t 5)),Jh 73 71 (.load 1 false (.t 72)),Jh 74 71 (.bin .eql (.t 73) (Jk 6)),Jh 75 71 (.mov (.t 74)),Jg 76 75 (.fieldAddr 5 1 false (.t 5)),Jg 77 75 (.load 1 false (.t 76)),Jg 78 75 (.lenSl (.t 77)),Jg 79 75 (.bin .eql (.t 78) (Jk 0)),Jh 80 71 (.pick (.t 75) (.t 79) (.k (.bool false))),Ji 81 (.pick (.t 71) (.k (.bool true)) (.t 80))]) (.cond (.t 81) (.seq (.reg [Ji 2 (.mov (.k (.bool false)))]) .ret) .skip)))) (.reg [Jm 38 4,Ja 39 38,Jm 4 39])))
def a19_1:ACode:=(.seq (.seq (.reg [Jm 6 3,Jd 7 0 1,Jl 8 7,Jn 9 8,Ji 10 (.bin .lss (.t 6) (.t 9))]) (.cond (.t 10) .skip (.exit 0))) (.seq (.block 1 (.seq (.seq (.reg [Jd 13 0 1,Jl 14 13,Jm 15 3,Jx 16 7 14 15,Jd 17 0 16,Jl 18 17,Ji 19 (.bin .lss (.t 18) (Jk 1)),Jm 20 19,Jh 21 20 (.fieldAddr 0 1 false (.t 1)),Jh 22 20 (.load 1 false (.t 21)),Jh 23 20 (.mov (.t 3)),Jh 24 20 (.indexAddr 7 true none (.t 22) (.t 23)),Jh 25 20 (.fieldAddr 0 1 false (.t 24)),Jh 26 20 (.load 1 false (.t 25)),Jh 27 20 (.bin .gtr (.t 26) (Jk 3)),Ji 28 (.pick (.t 20) (.k (.bool true)) (.t 27))]) (.cond (.t 28) (.seq (.reg [Ji 2 (.mov (.k (.bool false)))]) .ret) .skip)) (.seq (.reg [Ji 4 (.mov (Jk 0))]) (.block 2 (.loop a19_0))))) (.reg [Jm 11 3,Ja 12 11,Jm 3 12])))
def a19:AFunc:=⟨84,[.tmp 2],(.seq (.reg [Ji 1 (.box 2 (.t 0) false),Ji 2 (.mov (.k (.bool false)))]) (.seq (.seq (.reg [Ji 3 (.mov (Jk 0))]) (.block 0 (.loop a19_1))) (.seq (.reg [Jo 82 2 1,Ji 83 (.call (Jf 51) [(.t 82)]),Jm 2 83]) .ret))),[],false⟩
def a20:AFunc:=⟨18,[.tmp 2],(.seq (.reg [Ji 1 (.box 2 (.t 0) false),Ji 2 (.mov (.k (.lst 2 [] .tight)))]) (.seq (.seq (.reg [Jo 5 2 1,Ji 6 (.call (Jf 52) [(.t 5)]),Ji 7 (.un .not (.t 6))]) (.cond (.t 7) (.seq (.reg [Ji 2 (.mov (.k (.lst 2 [] .tight)))]) .ret) .skip)) (.seq (.reg [Ji 3 (.new (.lst 2 [] .tight) true none)]) (.seq (.seq (.reg [Jo 8 2 1,Ji 9 (.call (Jf 53) [(.t 8)])]) (.block 0 (.rangeFunc (.t 9) [10] 0))) (.seq (.reg [Jl 16 3,Ji 17 (.call (Jf 17) [(.t 16)]),Jm 2 17]) .ret))))),[((.reg [Jm 4 10]),(.block 1 (.reg [Jl 11 3,Jm 12 4,Ji 13 (.build [(.int .i64 0),(.int .i64 0)] [(0,1,(Jk 4)),(1,1,(.t 12))]),Ji 14 (.mkLit 2 [(.int .i64 0),(.int .i64 0)] [(0,2,(.t 13))] false),Ji 15 (.append 2 16 (some 27) (.t 11) (.t 14)),⟨none,.store 1 (.t 3) (.t 15),none⟩])))],false⟩
def a21:AFunc:=⟨11,[.tmp 2],(.seq (.reg [Ji 1 (.box 2 (.t 0) false),Ji 2 (.mov (.k (.bool false)))]) (.seq (.reg [Jo 3 2 1,Ji 4 (.call (Jf 52) [(.t 3)]),Jm 5 4,Jg 6 5 (.load 2 true (.t 1)),Jg 7 5 (.call (Jf 20) [(.t 6)]),Jg 8 5 (.lenSl (.t 7)),Jg 9 5 (.bin .eql (.t 8) (Jk 0)),Ji 10 (.pick (.t 5) (.t 9) (.k (.bool false))),Jm 2 10]) .ret)),[],false⟩
def a22_0:ACode:=(.seq (.seq (.reg [Jm 215 17,Jm 216 16,Jn 217 216,Ji 218 (.bin .lss (.t 215) (.t 217))]) (.cond (.t 218) .skip (.exit 13))) (.seq (.block 14 (.seq (.seq (.reg [Jm 221 16,Jm 222 17,Ji 223 (.indexAddr 1 false none (.t 221) (.t 222)),Jl 224 223,Ji 225 (.un .not (.t 224))]) (.cond (.t 225) (.exit 14) .skip)) (.seq (.reg [Jd 226 1 1,Jl 227 226,Jm 228 17,Jx 229 9 227 228,Jo 230 9 229,Ji 18 (.new (.agg [(.int .i64 0),(.int .i64 0),(.int .i64 0),(.int .i64 0),(.str []),(.str []),(.int .i64 0),(.lst 1 [] .tight),(.int .i64 0)]) true none),⟨none,.store 9 (.t 18) (.t 230),none⟩]) (.seq (.reg [Ji 19 (.mov (.k (.bool false)))]) (.seq (.reg [Jo 232 7 6,Jd 233 4 18,Jl 234 233,Ji 235 (.call (Jf 32) [(.t 232),(.t 234)]),Jm 231 235,Ji 236 (.extract (.t 231) 0),Ji 237 (.extract (.t 231) 1),Ji 20 (.new (.agg [(.str []),(.int .i64 0),(.int .i64 0),(.int .i64 0)]) true none),⟨none,.store 4 (.t 20) (.t 236),none⟩,Jm 21 237]) (.seq (.seq (.reg [Jd 238 0 18,Jl 239 238,Je 240 239 3]) (.cond (.t 240) (.reg [Jm 241 21,Ji 242 (.un .not (.t 241)),Jm 243 242,Jh 244 243 (.fieldAddr 1 1 false (.t 20)),Jh 245 243 (.load 1 false (.t 244)),Jh 246 243 (.bin .eql (.t 245) (Jk 5)),Ji 247 (.pick (.t 243) (.k (.bool true)) (.t 246)),Jm 19 247]) .skip)) (.seq (.seq (.reg [Jd 248 0 18,Jl 249 248,Je 250 249 20]) (.cond (.t 250) (.reg [Jo 251 7 6,Jd 252 4 18,Jl 253 252,Jd 254 5 18,Jl 255 254,Ji 256 (.call (Jf 54) [(.t 251),(.t 253),(.t 255)]),Ji 257 (.un .not (.t 256)),Jm 19 257]) .skip)) (.seq (.seq (.reg [Jd 258 0 18,Jl 259 258,Je 260 259 19]) (.cond (.t 260) (.seq (.reg [Jo 261 2 1,Jd 262 4 18,Jl 263 262,Ji 264 (.call (Jf 29) [(.t 261),(.t 263)]),Jm 22 264]) (.plan [Js 0 (Jm 265 22),Js 1 (Ji 266 (.bin .lss (.t 265) (Jk 0))),Js 2 (Jm 267 266),Js 3 (Jh 268 267 (.fieldAddr 0 1 false (.t 1))),Js 4 (Jh 269 267 (.load 1 false (.t 268))),Js 5 (Jh 270 267 (.mov (.t 22))),Js 6 (Jh 271 267 (.indexAddr 7 true none (.t 269) (.t 270))),Js 7 (Jh 272 267 (.fieldAddr 0 1 false (.t 271))),Js 8 (Jh 273 267 (.load 1 false (.t 272))),Js 9 (Jh 274 267 (.bin .eql (.t 273) (Jk 3))),Js 10 (Ji 275 (.pick (.t 267) (.k (.bool true)) (.t 274))),Js 11 (Jm 276 275),Js 12 (Jh 277 276 (.fieldAddr 0 1 false (.t 1))),Js 13 (Jh 278 276 (.load 1 false (.t 277))),Js 14 (Jh 279 276 (.mov (.t 22))),Js 15 (Jh 280 276 (.indexAddr 7 true none (.t 278) (.t 279))),Js 16 (Jh 281 276 (.fieldAddr 2 1 false (.t 280))),Js 17 (Jh 282 276 (.load 1 false (.t 281))),Js 18 (Jh 283 276 (.lenSl (.t 282))),Js 19 (Jh 284 276 (.fieldAddr 7 1 false (.t 18))),Js 20 (Jh 285 276 (.load 1 false (.t 284))),Js 21 (Jh 286 276 (.lenSl (.t 285))),Js 22 (Jh 287 276 (.bin .neq (.t 283) (.t 286))),Js 23 (Ji 288 (.pick (.t 276) (.k (.bool true)) (.t 287))),Js 24 (Jm 19 288)])) .skip)) (.seq (.reg [Jm 289 19]) (.cond (.t 289) (.reg [Jm 290 3,Jd 291 8 18,Jl 292 291,Ji 293 (.build [(.int .i64 0),(.int .i64 0)] [(0,1,(Jk 4)),(1,1,(.t 292))]),Ji 294 (.call (Jf 15) [(.t 290),(.t 293)]),Jm 3 294]) .skip)))))))))) (.reg [Jm 219 17,Ja 220 219,Jm 17 220])))
def a22_1:ACode:=(.seq (.seq (.reg [Jm 137 15,Jm 138 14,Ji 139 (.bin .lss (.t 137) (.t 138))]) (.cond (.t 139) .skip (.exit 11))) (.seq (.block 12 (.plan [Js 0 (Jm 142 13),Js 1 (Jm 143 142),Js 2 (Jh 144 143 (.fieldAddr 5 1 false (.t 10))),Js 3 (Jh 145 143 (.load 1 false (.t 144))),Js 4 (Jh 146 143 (.mov (.t 14))),Js 5 (Jh 147 143 (.indexAddr 1 false none (.t 145) (.t 146))),Js 6 (Jh 148 143 (.load 1 false (.t 147))),Js 7 (Jh 149 143 (.fieldAddr 5 1 false (.t 10))),Js 8 (Jh 150 143 (.load 1 false (.t 149))),Js 9 (Jh 151 143 (.mov (.t 15))),Js 10 (Jh 152 143 (.indexAddr 1 false none (.t 150) (.t 151))),Js 11 (Jh 153 143 (.load 1 false (.t 152))),Js 12 (Jh 154 143 (.bin .eql (.t 148) (.t 153))),Js 13 (Ji 155 (.pick (.t 143) (.k (.bool true)) (.t 154))),Js 14 (Jm 13 155)])) (.reg [Jm 140 15,Ja 141 140,Jm 15 141])))
def a22_2:ACode:=(.seq (.seq (.reg [Jm 125 14,Jd 126 5 10,Jl 127 126,Jn 128 127,Ji 129 (.bin .lss (.t 125) (.t 128)),Jm 130 129,Jg 131 130 (.fieldAddr 0 1 false (.t 10)),Jg 132 130 (.load 1 false (.t 131)),Jg 133 130 (.bin .eql (.t 132) (Jk 6)),Ji 134 (.pick (.t 130) (.t 133) (.k (.bool false)))]) (.cond (.t 134) .skip (.exit 9))) (.seq (.block 10 (.seq (.reg [Ji 15 (.mov (Jk 0))]) (.block 11 (.loop a22_1)))) (.reg [Jm 135 14,Ja 136 135,Jm 14 136])))
def a22_3:ACode:=(.seq (.seq (.reg [Jm 90 9,Jd 91 3 6,Jl 92 91,Jn 93 92,Ji 94 (.bin .lss (.t 90) (.t 93))]) (.cond (.t 94) .skip (.exit 6))) (.seq (.block 7 (.seq (.reg [Jd 97 3 6,Jl 98 97,Jm 99 9,Jx 100 9 98 99,Jo 101 9 100,Ji 10 (.new (.agg [(.int .i64 0),(.str []),(.int .i64 0),(.int .i64 0),(.int .i64 0),(.lst 1 [] .tight),(.str []),(.str []),(.int .i64 0)]) true none),⟨none,.store 9 (.t 10) (.t 101),none⟩]) (.seq (.reg [Jo 103 7 6,Jd 104 1 10,Jl 105 104,Ji 106 (.call (Jf 32) [(.t 103),(.t 105)]),Jm 102 106,Ji 107 (.extract (.t 102) 0),Ji 108 (.extract (.t 102) 1),Ji 11 (.new (.agg [(.str []),(.int .i64 0),(.int .i64 0),(.int .i64 0)]) true none),⟨none,.store 4 (.t 11) (.t 107),none⟩,Jm 12 108]) (.seq (.reg [Ji 13 (.mov (.k (.bool false)))]) (.seq (.seq (.reg [Jd 109 0 10,Jl 110 109]) (.block 8 (.seq (.seq (.reg [Je 112 110 1,Jm 111 112]) (.cond (.t 111) .skip (.seq (.reg [Je 113 110 2,Jm 111 113]) (.cond (.t 111) .skip (.seq (.reg [Je 114 110 4,Jm 111 114]) (.cond (.t 111) .skip (.reg [Je 115 110 6,Jm 111 115]))))))) (.cond (.t 111) (.seq (.reg [Jd 116 1 11,Jl 117 116,Je 118 117 1,Jm 119 118,Jh 120 119 (.fieldAddr 3 1 false (.t 11)),Jh 121 119 (.load 1 false (.t 120)),Jh 122 119 (.mov (.t 9)),Jh 123 119 (.bin .neq (.t 121) (.t 122)),Ji 124 (.pick (.t 119) (.k (.bool true)) (.t 123)),Jm 13 124]) (.seq (.reg [Ji 14 (.mov (Jk 0))]) (.block 9 (.loop a22_2)))) (.seq (.reg [Je 157 110 3,Jm 156 157]) (.cond (.t 156) (.reg [Jm 158 12,Ji 159 (.un .not (.t 158)),Jm 160 159,Jh 161 160 (.fieldAddr 1 1 false (.t 11)),Jh 162 160 (.load 1 false (.t 161)),Jh 163 160 (.bin .neq (.t 162) (Jk 3)),Ji 164 (.pick (.t 160) (.k (.bool true)) (.t 163)),Jm 13 164]) (.seq (.reg [Je 166 110 5,Jm 165 166]) (.cond (.t 165) (.reg [Jm 167 12,Ji 168 (.un .not (.t 167)),Jm 169 168,Jh 170 169 (.fieldAddr 1 1 false (.t 11)),Jh 171 169 (.load 1 false (.t 170)),Jh 172 169 (.bin .neq (.t 171) (Jk 4)),Ji 173 (.pick (.t 169) (.k (.bool true)) (.t 172)),Jm 13 173]) (.seq (.reg [Je 175 110 7,Jm 174 175]) (.cond (.t 174) (.reg [Jo 176 7 6,Jd 177 1 10,Jl 178 177,Jd 179 6 10,Jl 180 179,Ji 181 (.call (Jf 54) [(.t 176),(.t 178),(.t 180)]),Ji 182 (.un .not (.t 181)),Jm 183 182,Jh 184 183 (.load 7 true (.t 6)),Jh 185 183 (.fieldAddr 1 1 false (.t 10)),Jh 186 183 (.load 1 false (.t 185)),Jh 187 183 (.fieldAddr 7 1 false (.t 10)),Jh 188 183 (.load 1 false (.t 187)),Jh 189 183 (.call (Jf 54) [(.t 184),(.t 186),(.t 188)]),Jh 190 183 (.un .not (.t 189)),Ji 191 (.pick (.t 183) (.k (.bool true)) (.t 190)),Jm 13 191]) (.seq (.reg [Je 193 110 8,Jm 192 193]) (.cond (.t 192) (.reg [Jm 194 12,Ji 195 (.un .not (.t 194)),Jm 196 195,Jh 197 196 (.fieldAddr 1 1 false (.t 11)),Jh 198 196 (.load 1 false (.t 197)),Jh 199 196 (.bin .eql (.t 198) (Jk 1)),Ji 200 (.pick (.t 196) (.k (.bool true)) (.t 199)),Jm 201 200,Jh 202 201 (.fieldAddr 1 1 false (.t 11)),Jh 203 201 (.load 1 false (.t 202)),Jh 204 201 (.bin .eql (.t 203) (Jk 5)),Ji 205 (.pick (.t 201) (.k (.bool true)) (.t 204)),Jm 13 205]) .skip)))))))))))) (.seq (.reg [Jm 206 13]) (.cond (.t 206) (.reg [Jm 207 3,Jd 208 8 10,Jl 209 208,Ji 210 (.build [(.int .i64 0),(.int .i64 0)] [(0,1,(Jk 4)),(1,1,(.t 209))]),Ji 211 (.call (Jf 15) [(.t 207),(.t 210)]),Jm 3 211]) .skip))))))) (.reg [Jm 95 9,Ja 96 95,Jm 9 96])))
def a22_4:ACode:=(.seq (.seq (.reg [Jm 67 8,Jm 68 7,Ji 69 (.bin .lss (.t 67) (.t 68))]) (.cond (.t 69) .skip (.exit 4))) (.seq (.block 5 (.seq (.plan [Js 0 (Jd 72 2 6),Js 1 (Jl 73 72),Js 2 (Jm 74 7),Js 3 (Jx 75 2 73 74),Js 4 (Jd 76 0 75),Js 5 (Jl 77 76),Js 6 (Jd 78 2 6),Js 7 (Jl 79 78),Js 8 (Jm 80 8),Js 9 (Jx 81 2 79 80),Js 10 (Jd 82 0 81),Js 11 (Jl 83 82),Js 12 (Ji 84 (.bin .eql (.t 77) (.t 83)))]) (.cond (.t 84) (.reg [Jm 85 3,Jd 86 6 6,Jl 87 86,Ji 88 (.build [(.int .i64 0),(.int .i64 0)] [(0,1,(Jk 4)),(1,1,(.t 87))]),Ji 89 (.call (Jf 15) [(.t 85),(.t 88)]),Jm 3 89]) .skip))) (.reg [Jm 70 8,Ja 71 70,Jm 8 71])))
def a22_5:ACode:=(.seq (.seq (.reg [Jm 60 7,Jd 61 2 6,Jl 62 61,Jn 63 62,Ji 64 (.bin .lss (.t 60) (.t 63))]) (.cond (.t 64) .skip (.exit 2))) (.seq (.block 3 (.seq (.reg [Ji 8 (.mov (Jk 0))]) (.block 4 (.loop a22_4)))) (.reg [Jm 65 7,Ja 66 65,Jm 7 66])))
def a22_6:ACode:=(.seq (.seq (.reg [Jm 23 5,Jd 24 0 1,Jl 25 24,Jn 26 25,Ji 27 (.bin .lss (.t 23) (.t 26))]) (.cond (.t 27) .skip (.exit 0))) (.seq (.block 1 (.seq (.reg [Jd 30 0 1,Jl 31 30,Jm 32 5,Jx 33 7 31 32,Jo 34 7 33,Ji 6 (.new (.agg [(.int .i64 0),(.str []),(.lst 2 [] .tight),(.lst 9 [] .tight),(.int .i64 0),(.int .i64 0),(.int .i64 0)]) true none),⟨none,.store 7 (.t 6) (.t 34),none⟩]) (.seq (.seq (.reg [Jd 35 0 6,Jl 36 35,Je 37 36 3]) (.cond (.t 37) (.reg [Jm 38 4,Ja 39 38,Jm 4 39]) .skip)) (.seq (.seq (.reg [Jd 40 0 6,Jl 41 40,Je 42 41 3,Jm 43 42,Jg 44 43 (.mov (.t 4)),Jg 45 43 (.bin .gtr (.t 44) (Jk 1)),Ji 46 (.pick (.t 43) (.t 45) (.k (.bool false))),Jm 47 46,Jh 48 47 (.load 2 true (.t 1)),Jh 49 47 (.fieldAddr 1 1 false (.t 6)),Jh 50 47 (.load 1 false (.t 49)),Jh 51 47 (.call (Jf 29) [(.t 48),(.t 50)]),Jh 52 47 (.mov (.t 5)),Jh 53 47 (.bin .neq (.t 51) (.t 52)),Ji 54 (.pick (.t 47) (.k (.bool true)) (.t 53))]) (.cond (.t 54) (.reg [Jm 55 3,Jd 56 6 6,Jl 57 56,Ji 58 (.build [(.int .i64 0),(.int .i64 0)] [(0,1,(Jk 4)),(1,1,(.t 57))]),Ji 59 (.call (Jf 15) [(.t 55),(.t 58)]),Jm 3 59]) .skip)) (.seq (.seq (.reg [Ji 7 (.mov (Jk 0))]) (.block 2 (.loop a22_5))) (.seq (.seq (.reg [Ji 9 (.mov (Jk 0))]) (.block 6 (.loop a22_3))) (.seq (.reg [Jo 212 2 1,Jo 213 7 6,Ji 214 (.call (Jf 39) [(.t 212),(.t 213)]),Jm 16 214]) (.seq (.reg [Ji 17 (.mov (Jk 0))]) (.block 13 (.loop a22_0)))))))))) (.reg [Jm 28 5,Ja 29 28,Jm 5 29])))
def a22:AFunc:=⟨301,[.tmp 2],(.seq (.reg [Ji 1 (.box 2 (.t 0) false),Ji 2 (.mov (.k (.lst 2 [] .tight)))]) (.seq (.reg [Ji 3 (.mov (.k (.lst 2 [] .tight)))]) (.seq (.reg [Ji 4 (.mov (Jk 0))]) (.seq (.seq (.reg [Ji 5 (.mov (Jk 0))]) (.block 0 (.loop a22_6))) (.seq (.seq (.reg [Jm 295 4,Je 296 295 0]) (.cond (.t 296) (.reg [Jm 297 3,Ji 298 (.build [(.int .i64 0),(.int .i64 0)] [(0,1,(Jk 4))]),Ji 299 (.call (Jf 15) [(.t 297),(.t 298)]),Jm 3 299]) .skip)) (.seq (.reg [Jm 300 3,Jm 2 300]) .ret)))))),[],false⟩
def a23:AFunc:=⟨11,[.tmp 2],(.seq (.reg [Ji 1 (.box 2 (.t 0) false),Ji 2 (.mov (.k (.bool false)))]) (.seq (.reg [Jo 3 2 1,Ji 4 (.call (Jf 19) [(.t 3)]),Jm 5 4,Jg 6 5 (.load 2 true (.t 1)),Jg 7 5 (.call (Jf 22) [(.t 6)]),Jg 8 5 (.lenSl (.t 7)),Jg 9 5 (.bin .eql (.t 8) (Jk 0)),Ji 10 (.pick (.t 5) (.t 9) (.k (.bool false))),Jm 2 10]) .ret)),[],false⟩
def a24_0:ACode:=(.seq (.seq (.plan [Js 0 (Jm 28 9),Js 1 (Ji 29 (.nilCheck (.t 28))),Js 2 (Ji 30 (.fieldAddr 5 2 true (.t 29))),Js 3 (Jd 31 0 30),Js 4 (Jl 32 31),Js 5 (Je 33 32 0),Js 6 (Jm 34 33),Js 7 (Jg 35 34 (.mov (.t 9))),Js 8 (Jg 36 34 (.nilCheck (.t 35))),Js 9 (Jg 37 34 (.fieldAddr 0 1 false (.t 36))),Js 10 (Jg 38 34 (.load 1 false (.t 37))),Js 11 (Jg 39 34 (.mov (.t 9))),Js 12 (Jg 40 34 (.nilCheck (.t 39))),Js 13 (Jg 41 34 (.fieldAddr 1 1 false (.t 40))),Js 14 (Jg 42 34 (.load 1 false (.t 41))),Js 15 (Jg 43 34 (.indexAddr 4 true none (.t 38) (.t 42))),Js 16 (Jg 44 34 (.fieldAddr 0 1 false (.t 43))),Js 17 (Jg 45 34 (.load 1 false (.t 44))),Js 18 (Jg 46 34 (.bin .neq (.t 45) (Jk 5))),Js 19 (Ji 47 (.pick (.t 34) (.t 46) (.k (.bool false))))]) (.cond (.t 47) .skip (.exit 0))) (.block 1 (.seq (.reg [Jm 48 9,Ji 49 (.call (Jf 57) [(.t 48)]),Ji 11 (.new (.agg [(.int .i64 0),(.str []),(.lst 2 [] .tight),(.lst 9 [] .tight),(.int .i64 0),(.int .i64 0),(.int .i64 0)]) true none),⟨none,.store 7 (.t 11) (.t 49),none⟩]) (.plan [Js 0 (Jm 50 9),Js 1 (Jm 51 9),Js 2 (Ji 52 (.nilCheck (.t 51))),Js 3 (Ji 53 (.fieldAddr 2 2 true (.t 52))),Js 4 (Jd 54 0 53),Js 5 (Jl 55 54),Js 6 (Jo 56 7 11),⟨7,Ji 57 (.mkLit 7 [(.int .i64 0),(.str []),(.lst 2 [] .tight),(.lst 9 [] .tight),(.int .i64 0),(.int .i64 0),(.int .i64 0)] [(0,7,(.t 56))] false),[]⟩,Js 8 (Ji 58 (.append 7 96 (some 42) (.t 55) (.t 57))),Js 9 (Ji 59 (.nilCheck (.t 50))),Js 10 (Ji 60 (.fieldAddr 2 2 true (.t 59))),Js 11 (Jd 61 0 60),⟨12,⟨none,.store 1 (.t 61) (.t 58),none⟩,[]⟩]))))
def a24:AFunc:=⟨101,[.cell 4 2 true,.tmp 5,.cell 6 2 true],(.seq (.reg [Ji 4 (.new (.agg [(.lst 7 [] .tight),(.lst 9 [] .tight)]) true none),Ji 5 (.mov (Jk 0)),Ji 6 (.new (.agg [(.int .i64 0),(.int .i64 0)]) true none)]) (.seq (.reg [Jm 13 0,Ji 14 (.call (Jf 55) [(.t 13)]),Jm 12 14,Ji 15 (.extract (.t 12) 0),Ji 16 (.extract (.t 12) 1),Ji 8 (.new (.agg [(.int .i64 0),(.int .i64 0)]) true none),Jm 7 15,⟨none,.store 2 (.t 8) (.t 16),none⟩]) (.seq (.seq (.reg [Jd 17 0 8,Jl 18 17,Ji 19 (.bin .neq (.t 18) (Jk 0))]) (.cond (.t 19) (.seq (.plan [⟨0,Ji 20 (.build [(.lst 7 [] .tight),(.lst 9 [] .tight)] []),[]⟩,Js 1 (Jo 21 2 8),⟨2,⟨none,.store 2 (.t 4) (.t 20),none⟩,[1]⟩,Js 3 (Ji 5 (.mov (Jk 0))),⟨4,⟨none,.store 2 (.t 6) (.t 21),none⟩,[]⟩]) .ret) .skip)) (.seq (.reg [Jm 22 7,Ji 23 (.build [(.lst 4 [] .tight),(.int .i64 0),(.lst 7 [] .tight),(.lst 9 [] .tight),(.int .i64 0),(.int .i64 0),(.int .i64 0)] [(0,1,(.t 22))]),Ji 24 (.box 7 (.t 23) true),Jm 9 24]) (.seq (.reg [Ji 10 (.mov (Jk 0))]) (.seq (.seq (.reg [Jm 25 1]) (.cond (.t 25) (.reg [Jm 26 9,Ji 27 (.call (Jf 56) [(.t 26)]),Jm 10 27]) (.block 0 (.loop a24_0)))) (.seq (.seq (.plan [Js 0 (Jm 62 9),Js 1 (Ji 63 (.nilCheck (.t 62))),Js 2 (Ji 64 (.fieldAddr 5 2 true (.t 63))),Js 3 (Jd 65 0 64),Js 4 (Jl 66 65),Js 5 (Je 67 66 0),Js 6 (Jm 68 67),Js 7 (Jg 69 68 (.mov (.t 9))),Js 8 (Jg 70 68 (.nilCheck (.t 69))),Js 9 (Jg 71 68 (.fieldAddr 0 1 false (.t 70))),Js 10 (Jg 72 68 (.load 1 false (.t 71))),Js 11 (Jg 73 68 (.mov (.t 9))),Js 12 (Jg 74 68 (.nilCheck (.t 73))),Js 13 (Jg 75 68 (.fieldAddr 1 1 false (.t 74))),Js 14 (Jg 76 68 (.load 1 false (.t 75))),Js 15 (Jg 77 68 (.indexAddr 4 true none (.t 72) (.t 76))),Js 16 (Jg 78 68 (.fieldAddr 0 1 false (.t 77))),Js 17 (Jg 79 68 (.load 1 false (.t 78))),Js 18 (Jg 80 68 (.bin .neq (.t 79) (Jk 5))),Js 19 (Ji 81 (.pick (.t 68) (.t 80) (.k (.bool false))))]) (.cond (.t 81) (.reg [Jm 82 9,Ji 83 (.call (Jf 58) [(.t 82),(Jk 2)])]) .skip)) (.seq (.seq (.reg [Jm 84 9,Ji 85 (.nilCheck (.t 84)),Ji 86 (.fieldAddr 5 2 true (.t 85)),Jd 87 0 86,Jl 88 87,Ji 89 (.bin .neq (.t 88) (Jk 0))]) (.cond (.t 89) (.seq (.plan [⟨0,Ji 90 (.build [(.lst 7 [] .tight),(.lst 9 [] .tight)] []),[]⟩,Js 1 (Jm 91 9),Js 2 (Ji 92 (.nilCheck (.t 91))),Js 3 (Ji 93 (.fieldAddr 5 2 true (.t 92))),Js 4 (Jo 94 2 93),⟨5,⟨none,.store 2 (.t 4) (.t 90),none⟩,[4]⟩,Js 6 (Ji 5 (.mov (Jk 0))),⟨7,⟨none,.store 2 (.t 6) (.t 94),none⟩,[]⟩]) .ret) .skip)) (.seq (.reg [Jm 95 9,Ji 96 (.nilCheck (.t 95)),Ji 97 (.fieldAddr 2 2 true (.t 96)),Jo 98 2 97,Jm 99 10,Ji 100 (.build [(.int .i64 0),(.int .i64 0)] []),⟨none,.store 2 (.t 4) (.t 98),none⟩,Jm 5 99,⟨none,.store 2 (.t 6) (.t 100),none⟩]) .ret))))))))),[],false⟩
def a25:AFunc:=⟨15,[.tmp 4],(.seq (.reg [Ji 2 (.box 2 (.t 0) false),Ji 4 (.mov (.k (.lst 4 [] .tight)))]) (.seq (.seq (.reg [Jo 5 2 2,Jm 6 1,Ji 7 (.call (Jf 59) [(.t 5),(.t 6)]),Ji 8 (.un .not (.t 7))]) (.cond (.t 8) (.seq (.reg [Ji 4 (.mov (.k (.lst 4 [] .tight)))]) .ret) .skip)) (.seq (.reg [Jd 9 0 2,Jl 10 9,Jm 11 1,Jx 12 7 10 11,Jo 13 7 12,Ji 14 (.call (Jf 60) [(.t 13)]),Jm 4 14]) .ret))),[],false⟩
def a27:AFunc:=⟨15,[.tmp 4],(.seq (.reg [Ji 2 (.box 2 (.t 0) false),Ji 4 (.mov (.k (.lst 1 [] .tight)))]) (.seq (.seq (.reg [Jo 5 2 2,Jm 6 1,Ji 7 (.call (Jf 59) [(.t 5),(.t 6)]),Ji 8 (.un .not (.t 7))]) (.cond (.t 8) (.seq (.reg [Ji 4 (.mov (.k (.lst 1 [] .tight)))]) .ret) .skip)) (.seq (.reg [Jd 9 0 2,Jl 10 9,Jm 11 1,Jx 12 7 10 11,Jo 13 7 12,Ji 14 (.call (Jf 62) [(.t 13)]),Jm 4 14]) .ret))),[],false⟩
def a28:AFunc:=⟨11,[.tmp 4],(.seq (.reg [Ji 2 (.box 2 (.t 0) false),Ji 4 (.mov (Jk 0))]) (.seq (.seq (.reg [Jo 5 2 2,Ji 6 (.call (Jf 52) [(.t 5)]),Ji 7 (.un .not (.t 6))]) (.cond (.t 7) (.seq (.reg [Ji 4 (.mov (.k (.int .i64 (-1))))]) .ret) .skip)) (.seq (.reg [Jo 8 2 2,Jm 9 1,Ji 10 (.call (Jf 63) [(.t 8),(.t 9)]),Jm 4 10]) .ret))),[],false⟩
def a29_0:ACode:=(.seq (.seq (.reg [Jm 6 5,Jd 7 0 2,Jl 8 7,Jn 9 8,Ji 10 (.bin .lss (.t 6) (.t 9))]) (.cond (.t 10) .skip (.exit 0))) (.seq (.block 1 (.seq (.reg [Jd 13 0 2,Jl 14 13,Jm 15 5,Jx 16 7 14 15,Jd 17 1 16,Jl 18 17,Jm 19 1,Ji 20 (.bin .eql (.t 18) (.t 19))]) (.cond (.t 20) (.seq (.reg [Jm 21 5,Jm 4 21]) .ret) .skip))) (.reg [Jm 11 5,Ja 12 11,Jm 5 12])))
def a29:AFunc:=⟨22,[.tmp 4],(.seq (.reg [Ji 2 (.box 2 (.t 0) false),Ji 4 (.mov (Jk 0))]) (.seq (.seq (.reg [Ji 5 (.mov (Jk 0))]) (.block 0 (.loop a29_0))) (.seq (.reg [Ji 4 (.mov (.k (.int .i64 (-1))))]) .ret))),[],false⟩
def a30_0:ACode:=(.seq (.seq (.reg [Jm 31 5,Jd 32 3 1,Jl 33 32,Jn 34 33,Ji 35 (.bin .lss (.t 31) (.t 34))]) (.cond (.t 35) .skip (.exit 2))) (.seq (.block 3 (.seq (.reg [Jd 38 3 1,Jl 39 38,Jm 40 5,Jx 41 9 39 40,Jo 42 9 41,Ji 6 (.new (.agg [(.int .i64 0),(.str []),(.int .i64 0),(.int .i64 0),(.int .i64 0),(.lst 1 [] .tight),(.str []),(.str []),(.int .i64 0)]) true none),⟨none,.store 9 (.t 6) (.t 42),none⟩]) (.seq (.reg [Jd 43 0 6,Jl 44 43]) (.block 4 (.seq (.reg [Je 46 44 1,Jm 45 46]) (.cond (.t 45) (.reg [Jm 47 3,Jd 48 1 6,Jl 49 48,Jd 50 2 6,Jl 51 50,Jm 52 5,Ji 53 (.build [(.str []),(.int .i64 0),(.int .i64 0),(.int .i64 0)] [(0,1,(.t 49)),(1,1,(Jk 2)),(2,1,(.t 51)),(3,1,(.t 52))]),Ji 54 (.mkLit 4 [(.str []),(.int .i64 0),(.int .i64 0),(.int .i64 0)] [(0,4,(.t 53))] false),Ji 55 (.append 4 40 (some 47) (.t 47) (.t 54)),Jm 3 55]) (.seq (.reg [Je 57 44 2,Jm 56 57]) (.cond (.t 56) (.reg [Jm 58 3,Jd 59 1 6,Jl 60 59,Jm 61 5,Ji 62 (.build [(.str []),(.int .i64 0),(.int .i64 0),(.int .i64 0)] [(0,1,(.t 60)),(1,1,(Jk 3)),(2,1,(Jk 1)),(3,1,(.t 61))]),Ji 63 (.mkLit 4 [(.str []),(.int .i64 0),(.int .i64 0),(.int .i64 0)] [(0,4,(.t 62))] false),Ji 64 (.append 4 40 (some 47) (.t 58) (.t 63)),Jm 3 64]) (.seq (.reg [Je 66 44 4,Jm 65 66]) (.cond (.t 65) (.reg [Jm 67 3,Jd 68 1 6,Jl 69 68,Jd 70 2 6,Jl 71 70,Jm 72 5,Ji 73 (.build [(.str []),(.int .i64 0),(.int .i64 0),(.int .i64 0)] [(0,1,(.t 69)),(1,1,(Jk 4)),(2,1,(.t 71)),(3,1,(.t 72))]),Ji 74 (.mkLit 4 [(.str []),(.int .i64 0),(.int .i64 0),(.int .i64 0)] [(0,4,(.t 73))] false),Ji 75 (.append 4 40 (some 47) (.t 67) (.t 74)),Jm 3 75]) (.seq (.reg [Je 77 44 6,Jm 76 77]) (.cond (.t 76) (.reg [Jm 78 3,Jd 79 1 6,Jl 80 79,Jm 81 5,Ji 82 (.build [(.str []),(.int .i64 0),(.int .i64 0),(.int .i64 0)] [(0,1,(.t 80)),(1,1,(Jk 5)),(3,1,(.t 81))]),Ji 83 (.mkLit 4 [(.str []),(.int .i64 0),(.int .i64 0),(.int .i64 0)] [(0,4,(.t 82))] false),Ji 84 (.append 4 40 (some 47) (.t 78) (.t 83)),Jm 3 84]) .skip)))))))))))) (.reg [Jm 36 5,Ja 37 36,Jm 5 37])))
def a30_1:ACode:=(.seq (.seq (.reg [Jm 7 4,Jd 8 2 1,Jl 9 8,Jn 10 9,Ji 11 (.bin .lss (.t 7) (.t 10))]) (.cond (.t 11) .skip (.exit 0))) (.seq (.block 1 (.plan [Js 0 (Jm 14 3),Js 1 (Jd 15 2 1),Js 2 (Jl 16 15),Js 3 (Jm 17 4),Js 4 (Jx 18 2 16 17),Js 5 (Jd 19 0 18),Js 6 (Jl 20 19),Js 7 (Jd 21 2 1),Js 8 (Jl 22 21),Js 9 (Jm 23 4),Js 10 (Jx 24 2 22 23),Js 11 (Jd 25 1 24),Js 12 (Jl 26 25),Js 13 (Jm 27 4),⟨14,Ji 28 (.build [(.str []),(.int .i64 0),(.int .i64 0),(.int .i64 0)] [(0,1,(.t 20)),(1,1,(Jk 1)),(2,1,(.t 26)),(3,1,(.t 27))]),[]⟩,⟨15,Ji 29 (.mkLit 4 [(.str []),(.int .i64 0),(.int .i64 0),(.int .i64 0)] [(0,4,(.t 28))] false),[]⟩,Js 16 (Ji 30 (.append 4 40 (some 47) (.t 14) (.t 29))),Js 17 (Jm 3 30)])) (.reg [Jm 12 4,Ja 13 12,Jm 4 13])))
def a30:AFunc:=⟨86,[.tmp 2],(.seq (.reg [Ji 1 (.box 7 (.t 0) false),Ji 2 (.mov (.k (.lst 4 [] .tight)))]) (.seq (.reg [Ji 3 (.mov (.k (.lst 4 [] .tight)))]) (.seq (.seq (.reg [Ji 4 (.mov (Jk 0))]) (.block 0 (.loop a30_1))) (.seq (.seq (.reg [Ji 5 (.mov (Jk 0))]) (.block 2 (.loop a30_0))) (.seq (.reg [Jm 85 3,Jm 2 85]) .ret))))),[],false⟩
def a31_0:ACode:=(.seq (.seq (.reg [Jm 7 4,Jd 8 3 1,Jl 9 8,Jn 10 9,Ji 11 (.bin .lss (.t 7) (.t 10))]) (.cond (.t 11) .skip (.exit 0))) (.seq (.block 1 (.seq (.reg [Jd 15 3 1,Jl 16 15,Jm 17 4,Jx 18 9 16 17,Jd 19 0 18,Jl 20 19,Ji 21 (.call (Jf 64) [(.t 20)]),Jm 14 21,Ji 22 (.extract (.t 14) 0),Ji 23 (.extract (.t 14) 1),Jm 5 22,Jm 6 23]) (.seq (.seq (.reg [Jm 24 5]) (.cond (.t 24) (.reg [Jm 25 3,Jd 26 3 1,Jl 27 26,Jm 28 4,Jx 29 9 27 28,Jd 30 3 29,Jl 31 30,Ji 32 (.mkLit 1 [(.int .i64 0)] [(0,1,(.t 31))] false),Ji 33 (.append 1 8 (some 3) (.t 25) (.t 32)),Jm 3 33]) .skip)) (.seq (.reg [Jm 34 6]) (.cond (.t 34) (.reg [Jm 35 3,Jd 36 3 1,Jl 37 36,Jm 38 4,Jx 39 9 37 38,Jd 40 4 39,Jl 41 40,Ji 42 (.mkLit 1 [(.int .i64 0)] [(0,1,(.t 41))] false),Ji 43 (.append 1 8 (some 3) (.t 35) (.t 42)),Jm 3 43]) .skip))))) (.reg [Jm 12 4,Ja 13 12,Jm 4 13])))
def a31:AFunc:=⟨53,[.tmp 2],(.seq (.reg [Ji 1 (.box 7 (.t 0) false),Ji 2 (.mov (.k (.lst 1 [] .tight)))]) (.seq (.reg [Ji 3 (.mov (.k (.lst 1 [] .tight)))]) (.seq (.seq (.reg [Ji 4 (.mov (Jk 0))]) (.block 0 (.loop a31_0))) (.seq (.seq (.reg [Jd 44 0 1,Jl 45 44,Ji 46 (.bin .lss (.t 45) (Jk 3))]) (.cond (.t 46) (.reg [Jm 47 3,Jd 48 5 1,Jl 49 48,Ji 50 (.mkLit 1 [(.int .i64 0)] [(0,1,(.t 49))] false),Ji 51 (.append 1 8 (some 3) (.t 47) (.t 50)),Jm 3 51]) .skip)) (.seq (.reg [Jm 52 3,Jm 2 52]) .ret))))),[],false⟩
def a32_0:ACode:=(.seq (.seq (.reg [Jm 10 7,Jm 11 6,Jn 12 11,Ji 13 (.bin .lss (.t 10) (.t 12))]) (.cond (.t 13) .skip (.exit 0))) (.seq (.block 1 (.seq (.reg [Jm 16 6,Jm 17 7,Jx 18 4 16 17,Jd 19 0 18,Jl 20 19,Jm 21 1,Ji 22 (.bin .eql (.t 20) (.t 21))]) (.cond (.t 22) (.seq (.reg [Jm 23 6,Jm 24 7,Jx 25 4 23 24,Jo 26 4 25,⟨none,.store 4 (.t 4) (.t 26),none⟩,Ji 5 (.mov (.k (.bool true)))]) .ret) .skip))) (.reg [Jm 14 7,Ja 15 14,Jm 7 15])))
def a32:AFunc:=⟨28,[.cell 4 4 true,.tmp 5],(.seq (.reg [Ji 2 (.box 7 (.t 0) false),Ji 4 (.new (.agg [(.str []),(.int .i64 0),(.int .i64 0),(.int .i64 0)]) true none),Ji 5 (.mov (.k (.bool false)))]) (.seq (.reg [Jo 8 7 2,Ji 9 (.call (Jf 30) [(.t 8)]),Jm 6 9]) (.seq (.seq (.reg [Ji 7 (.mov (Jk 0))]) (.block 0 (.loop a32_0))) (.seq (.reg [Ji 27 (.build [(.str []),(.int .i64 0),(.int .i64 0),(.int .i64 0)] []),⟨none,.store 4 (.t 4) (.t 27),none⟩,Ji 5 (.mov (.k (.bool false)))]) .ret)))),[],false⟩
def a33:AFunc:=⟨34,[.tmp 0],(.seq (.reg [Ji 0 (.mov (.k (.bool false)))]) (.seq (.reg [Ji 6 (.call (Jf 24) [(.k (.str [104,121,98,114,105,100,32,109,40,41,32,123,32,108,101,116,32,120,58,32,98,111,111,108,32,61,32,49,32,97,110,100,32,116,114,117,101,59,32,125])),(.k (.bool false))]),Jm 5 6,Ji 7 (.extract (.t 5) 0),Ji 8 (.extract (.t 5) 1),Ji 9 (.extract (.t 5) 2),Ji 1 (.new (.agg [(.lst 7 [] .tight),(.lst 9 [] .tight)]) true none),Ji 3 (.new (.agg [(.int .i64 0),(.int .i64 0)]) true none),⟨none,.store 2 (.t 1) (.t 7),none⟩,Jm 2 8,⟨none,.store 2 (.t 3) (.t 9),none⟩]) (.seq (.reg [Jo 10 2 1,Ji 11 (.call (Jf 35) [(.t 10)]),Jm 4 11]) (.seq (.reg [Jd 12 0 3,Jl 13 12,Je 14 13 0,Jm 15 14,Jg 16 15 (.mov (.t 4)),Jg 17 15 (.lenSl (.t 16)),Jg 18 15 (.bin .eql (.t 17) (Jk 1)),Ji 19 (.pick (.t 15) (.t 18) (.k (.bool false))),Jm 20 19,Jg 21 20 (.mov (.t 4)),Jg 22 20 (.indexAddr 2 true none (.t 21) (Jk 0)),Jg 23 20 (.fieldAddr 0 1 false (.t 22)),Jg 24 20 (.load 1 false (.t 23)),Jg 25 20 (.bin .eql (.t 24) (Jk 5)),Ji 26 (.pick (.t 20) (.t 25) (.k (.bool false))),Jm 27 26,Jg 28 27 (.mov (.t 4)),Jg 29 27 (.indexAddr 2 true none (.t 28) (Jk 0)),Jg 30 27 (.fieldAddr 1 1 false (.t 29)),Jg 31 27 (.load 1 false (.t 30)),Jg 32 27 (.bin .eql (.t 31) (Jk 27)),Ji 33 (.pick (.t 27) (.t 32) (.k (.bool false))),Jm 0 33]) .ret)))),[],false⟩
def a34_0:ACode:=(.seq (.seq (.reg [Jm 9 3,Jd 10 1 1,Jl 11 10,Jn 12 11,Ji 13 (.bin .lss (.t 9) (.t 12))]) (.cond (.t 13) .skip (.exit 0))) (.seq (.block 1 (.seq (.reg [Jo 16 2 1,Jm 17 3,Ji 18 (.call (Jf 43) [(.t 16),(.t 17),(.k (.lst 1 [] .tight)),(Jk 400)]),Jn 19 18,Ji 20 (.bin .geq (.t 19) (Jk 400))]) (.cond (.t 20) (.seq (.reg [Ji 2 (.mov (.k (.bool true)))]) .ret) .skip))) (.reg [Jm 14 3,Ja 15 14,Jm 3 15])))
def a34:AFunc:=⟨21,[.tmp 2],(.seq (.reg [Ji 1 (.box 2 (.t 0) false),Ji 2 (.mov (.k (.bool false)))]) (.seq (.seq (.reg [Jo 4 2 1,Ji 5 (.call (Jf 18) [(.t 4)])]) (.cond (.t 5) (.seq (.reg [Ji 2 (.mov (.k (.bool true)))]) .ret) .skip)) (.seq (.seq (.reg [Jo 6 2 1,Ji 7 (.call (Jf 51) [(.t 6)]),Ji 8 (.un .not (.t 7))]) (.cond (.t 8) (.seq (.reg [Ji 2 (.mov (.k (.bool false)))]) .ret) .skip)) (.seq (.seq (.reg [Ji 3 (.mov (Jk 0))]) (.block 0 (.loop a34_0))) (.seq (.reg [Ji 2 (.mov (.k (.bool false)))]) .ret))))),[],false⟩
def a35:AFunc:=⟨11,[.tmp 2],(.seq (.reg [Ji 1 (.box 2 (.t 0) false),Ji 2 (.mov (.k (.lst 2 [] .tight)))]) (.seq (.reg [Jo 6 2 1,Ji 7 (.call (Jf 65) [(.t 6)]),Jm 5 7,Ji 8 (.extract (.t 5) 0),Ji 9 (.extract (.t 5) 1),Jm 3 8,Jm 4 9]) (.seq (.reg [Jm 10 3,Jm 2 10]) .ret))),[],false⟩
def a36_0:ACode:=(.seq (.seq (.reg [Jm 96 14,Jm 97 13,Jn 98 97,Ji 99 (.bin .lss (.t 96) (.t 98))]) (.cond (.t 99) .skip (.exit 4))) (.seq (.block 5 (.seq (.reg [Jm 102 13,Jm 103 14,Ji 104 (.indexAddr 1 false none (.t 102) (.t 103)),Jl 105 104]) (.cond (.t 105) (.plan [Js 0 (Jm 106 3),Js 1 (Jo 107 2 1),Js 2 (Jm 108 4),Js 3 (Jd 109 1 1),Js 4 (Jl 110 109),Js 5 (Jm 111 14),Js 6 (Jx 112 9 110 111),Js 7 (Jo 113 9 112),⟨8,Ji 114 (.call (Jf 67) [(.t 106),(.t 107),(.t 108),(.t 113)]),[]⟩,Js 9 (Jm 3 114)]) .skip))) (.reg [Jm 100 14,Ja 101 100,Jm 14 101])))
def a36_1:ACode:=(.seq (.seq (.reg [Jm 27 6,Jd 28 3 5,Jl 29 28,Jn 30 29,Ji 31 (.bin .lss (.t 27) (.t 30))]) (.cond (.t 31) .skip (.exit 2))) (.seq (.block 3 (.seq (.reg [Jd 34 3 5,Jl 35 34,Jm 36 6,Jx 37 9 35 36,Jo 38 9 37,Ji 7 (.new (.agg [(.int .i64 0),(.str []),(.int .i64 0),(.int .i64 0),(.int .i64 0),(.lst 1 [] .tight),(.str []),(.str []),(.int .i64 0)]) true none),⟨none,.store 9 (.t 7) (.t 38),none⟩]) (.seq (.reg [Jd 40 0 7,Jl 41 40,Ji 42 (.call (Jf 64) [(.t 41)]),Jm 39 42,Ji 43 (.extract (.t 39) 0),Ji 44 (.extract (.t 39) 1),Jm 8 43,Jm 9 44]) (.seq (.reg [Ji 10 (.mov (Jk 1))]) (.seq (.seq (.reg [Jd 45 0 7,Jl 46 45,Je 47 46 1,Jm 48 47,Jh 49 48 (.fieldAddr 0 1 false (.t 7)),Jh 50 48 (.load 1 false (.t 49)),Jh 51 48 (.bin .eql (.t 50) (Jk 4)),Ji 52 (.pick (.t 48) (.k (.bool true)) (.t 51))]) (.cond (.t 52) (.reg [Jd 53 2 7,Jl 54 53,Jm 10 54]) .skip)) (.seq (.seq (.reg [Jd 55 0 7,Jl 56 55,Je 57 56 5]) (.cond (.t 57) (.seq (.reg [Jo 59 7 5,Jd 60 1 7,Jl 61 60,Ji 62 (.call (Jf 32) [(.t 59),(.t 61)]),Jm 58 62,Ji 63 (.extract (.t 58) 0),Ji 64 (.extract (.t 58) 1),Ji 11 (.new (.agg [(.str []),(.int .i64 0),(.int .i64 0),(.int .i64 0)]) true none),⟨none,.store 4 (.t 11) (.t 63),none⟩,Jm 12 64]) (.reg [Jd 65 2 11,Jl 66 65,Jm 10 66])) .skip)) (.seq (.seq (.reg [Jm 67 8]) (.cond (.t 67) (.reg [Jm 68 3,Jo 69 2 1,Jm 70 4,Jd 71 3 7,Jl 72 71,Jm 73 10,Ji 74 (.call (Jf 66) [(.t 68),(.t 69),(.t 70),(.t 72),(.t 73)]),Jm 3 74]) .skip)) (.seq (.reg [Jm 75 9]) (.cond (.t 75) (.reg [Jm 76 3,Jo 77 2 1,Jm 78 4,Jd 79 4 7,Jl 80 79,Ji 81 (.call (Jf 66) [(.t 76),(.t 77),(.t 78),(.t 80),(Jk 1)]),Jm 3 81]) .skip))))))))) (.reg [Jm 32 6,Ja 33 32,Jm 6 33])))
def a36_2:ACode:=(.seq (.seq (.reg [Jm 15 4,Jd 16 0 1,Jl 17 16,Jn 18 17,Ji 19 (.bin .lss (.t 15) (.t 18))]) (.cond (.t 19) .skip (.exit 0))) (.seq (.block 1 (.seq (.reg [Jd 22 0 1,Jl 23 22,Jm 24 4,Jx 25 7 23 24,Jo 26 7 25,Ji 5 (.new (.agg [(.int .i64 0),(.str []),(.lst 2 [] .tight),(.lst 9 [] .tight),(.int .i64 0),(.int .i64 0),(.int .i64 0)]) true none),⟨none,.store 7 (.t 5) (.t 26),none⟩]) (.seq (.seq (.reg [Ji 6 (.mov (Jk 0))]) (.block 2 (.loop a36_1))) (.seq (.seq (.reg [Jd 82 0 5,Jl 83 82,Ji 84 (.bin .lss (.t 83) (Jk 3))]) (.cond (.t 84) (.reg [Jm 85 3,Jo 86 2 1,Jm 87 4,Jd 88 5 5,Jl 89 88,Jd 90 4 5,Jl 91 90,Ji 92 (.call (Jf 66) [(.t 85),(.t 86),(.t 87),(.t 89),(.t 91)]),Jm 3 92]) .skip)) (.seq (.reg [Jo 93 2 1,Jo 94 7 5,Ji 95 (.call (Jf 39) [(.t 93),(.t 94)]),Jm 13 95]) (.seq (.reg [Ji 14 (.mov (Jk 0))]) (.block 4 (.loop a36_0)))))))) (.reg [Jm 20 4,Ja 21 20,Jm 4 21])))
def a36:AFunc:=⟨116,[.tmp 2],(.seq (.reg [Ji 1 (.box 2 (.t 0) false),Ji 2 (.mov (.k (.lst 2 [] .tight)))]) (.seq (.reg [Ji 3 (.mov (.k (.lst 2 [] .tight)))]) (.seq (.seq (.reg [Ji 4 (.mov (Jk 0))]) (.block 0 (.loop a36_2))) (.seq (.reg [Jm 115 3,Jm 2 115]) .ret)))),[],false⟩
def a37:AFunc:=⟨16,[.tmp 2],(.seq (.reg [Ji 1 (.box 2 (.t 0) false),Ji 2 (.mov (.k (.bool false)))]) (.seq (.reg [Jo 6 2 1,Ji 7 (.call (Jf 65) [(.t 6)]),Jm 5 7,Ji 8 (.extract (.t 5) 0),Ji 9 (.extract (.t 5) 1),Jm 3 8,Jm 4 9]) (.seq (.reg [Jm 10 4,Jm 11 10,Jg 12 11 (.mov (.t 3)),Jg 13 11 (.lenSl (.t 12)),Jg 14 11 (.bin .eql (.t 13) (Jk 0)),Ji 15 (.pick (.t 11) (.t 14) (.k (.bool false))),Jm 2 15]) .ret))),[],false⟩
def a39_0:ACode:=(.seq (.seq (.reg [Jm 43 10,Jm 44 9,Jn 45 44,Ji 46 (.bin .lss (.t 43) (.t 45)),Jm 47 46,Jg 48 47 (.mov (.t 5)),Jg 49 47 (.mov (.t 8)),Jg 50 47 (.indexAddr 1 false none (.t 48) (.t 49)),Jg 51 47 (.load 1 false (.t 50)),Ji 52 (.pick (.t 47) (.t 51) (.k (.bool false)))]) (.cond (.t 52) .skip (.exit 4))) (.seq (.block 5 (.reg [Jm 55 5,Jm 56 9,Jm 57 10,Ji 58 (.indexAddr 1 false none (.t 56) (.t 57)),Jl 59 58,Ji 60 (.indexAddr 1 false none (.t 55) (.t 59)),⟨none,.store 1 (.t 60) (.k (.bool true)),none⟩])) (.reg [Jm 53 10,Ja 54 53,Jm 10 54])))
def a39_1:ACode:=(.seq (.seq (.reg [Jm 33 8,Ji 34 (.bin .geq (.t 33) (Jk 0))]) (.cond (.t 34) .skip (.exit 2))) (.seq (.block 3 (.seq (.reg [Jd 37 1 2,Jl 38 37,Jm 39 8,Jx 40 9 38 39,Jo 41 9 40,Ji 42 (.call (Jf 68) [(.t 41)]),Jm 9 42]) (.seq (.reg [Ji 10 (.mov (Jk 0))]) (.block 4 (.loop a39_0))))) (.reg [Jm 35 8,Ji 36 (.bin .sub (.t 35) (Jk 1)),Jm 8 36])))
def a39_2:ACode:=(.seq (.seq (.reg [Jm 17 7,Jm 18 6,Jn 19 18,Ji 20 (.bin .lss (.t 17) (.t 19))]) (.cond (.t 20) .skip (.exit 0))) (.seq (.block 1 (.reg [Jm 23 5,Jm 24 6,Jm 25 7,Ji 26 (.indexAddr 1 false none (.t 24) (.t 25)),Jl 27 26,Ji 28 (.indexAddr 1 false none (.t 23) (.t 27)),⟨none,.store 1 (.t 28) (.k (.bool true)),none⟩])) (.reg [Jm 21 7,Ja 22 21,Jm 7 22])))
def a39:AFunc:=⟨62,[.tmp 4],(.seq (.reg [Ji 2 (.box 2 (.t 0) false),Ji 3 (.box 7 (.t 1) false),Ji 4 (.mov (.k (.lst 1 [] .tight)))]) (.seq (.reg [Jd 11 1 2,Jl 12 11,Jn 13 12,Ji 14 (.mkSlice 1 1 [(.bool false)] (.t 13) (.t 13) false),Jm 5 14]) (.seq (.reg [Jo 15 7 3,Ji 16 (.call (Jf 31) [(.t 15)]),Jm 6 16]) (.seq (.seq (.reg [Ji 7 (.mov (Jk 0))]) (.block 0 (.loop a39_2))) (.seq (.seq (.reg [Jd 29 1 2,Jl 30 29,Jn 31 30,Ji 32 (.bin .sub (.t 31) (Jk 1)),Jm 8 32]) (.block 2 (.loop a39_1))) (.seq (.reg [Jm 61 5,Jm 4 61]) .ret)))))),[],false⟩
def a40:AFunc:=⟨22,[.tmp 4],(.seq (.reg [Ji 2 (.box 2 (.t 0) false),Ji 4 (.mov (.k (.lst 1 [] .tight)))]) (.seq (.seq (.reg [Jo 5 2 2,Ji 6 (.call (Jf 21) [(.t 5)]),Ji 7 (.un .not (.t 6)),Jm 8 7,Jh 9 8 (.mov (.t 1)),Jh 10 8 (.bin .lss (.t 9) (Jk 0)),Ji 11 (.pick (.t 8) (.k (.bool true)) (.t 10)),Jm 12 11,Jh 13 12 (.mov (.t 1)),Jh 14 12 (.fieldAddr 0 1 false (.t 2)),Jh 15 12 (.load 1 false (.t 14)),Jh 16 12 (.lenSl (.t 15)),Jh 17 12 (.bin .geq (.t 13) (.t 16)),Ji 18 (.pick (.t 12) (.k (.bool true)) (.t 17))]) (.cond (.t 18) (.seq (.reg [Ji 4 (.mov (.k (.lst 1 [] .tight)))]) .ret) .skip)) (.seq (.reg [Jo 19 2 2,Jm 20 1,Ji 21 (.call (Jf 69) [(.t 19),(.t 20)]),Jm 4 21]) .ret))),[],false⟩
def a42_0:ACode:=(.seq (.seq (.reg [Jm 35 10,Jm 36 8,Jn 37 36,Ji 38 (.bin .lss (.t 35) (.t 37))]) (.cond (.t 38) .skip (.exit 1))) (.seq (.block 2 (.seq (.plan [Js 0 (Jm 41 8),Js 1 (Jm 42 10),Js 2 (Jx 43 4 41 42),Js 3 (Jd 44 0 43),Js 4 (Jl 45 44),Js 5 (Jd 46 4 7),Js 6 (Jl 47 46),Js 7 (Ji 48 (.bin .eql (.t 45) (.t 47)))]) (.cond (.t 48) (.reg [Jm 49 8,Jm 50 10,Jx 51 4 49 50,Jd 52 2 51,Jl 53 52,Jm 9 53]) .skip))) (.reg [Jm 39 10,Ja 40 39,Jm 10 40])))
def a42:AFunc:=⟨85,[.tmp 6],(.seq (.reg [Ji 3 (.box 2 (.t 0) false),Ji 6 (.mov (Jk 0))]) (.seq (.reg [Jd 12 1 3,Jl 13 12,Jm 14 2,Jx 15 9 13 14,Jo 16 9 15,Ji 7 (.new (.agg [(.int .i64 0),(.int .i64 0),(.int .i64 0),(.int .i64 0),(.str []),(.str []),(.int .i64 0),(.lst 1 [] .tight),(.int .i64 0)]) true none),⟨none,.store 9 (.t 7) (.t 16),none⟩]) (.seq (.seq (.reg [Jd 17 0 7,Jl 18 17]) (.block 0 (.seq (.seq (.reg [Je 20 18 1,Jm 19 20]) (.cond (.t 19) .skip (.seq (.reg [Je 21 18 4,Jm 19 21]) (.cond (.t 19) .skip (.seq (.reg [Je 22 18 6,Jm 19 22]) (.cond (.t 19) .skip (.seq (.reg [Je 23 18 7,Jm 19 23]) (.cond (.t 19) .skip (.seq (.reg [Je 24 18 8,Jm 19 24]) (.cond (.t 19) .skip (.seq (.reg [Je 25 18 9,Jm 19 25]) (.cond (.t 19) .skip (.reg [Je 26 18 21,Jm 19 26]))))))))))))) (.cond (.t 19) (.seq (.reg [Ji 6 (.mov (Jk 1))]) .ret) (.seq (.reg [Je 28 18 3,Jm 27 28]) (.cond (.t 27) (.seq (.reg [Jd 29 0 3,Jl 30 29,Jm 31 1,Jx 32 7 30 31,Jo 33 7 32,Ji 34 (.call (Jf 30) [(.t 33)]),Jm 8 34]) (.seq (.reg [Ji 9 (.mov (Jk 0))]) (.seq (.seq (.reg [Ji 10 (.mov (Jk 0))]) (.block 1 (.loop a42_0))) (.seq (.reg [Jm 54 9,Jm 6 54]) .ret)))) (.seq (.reg [Je 56 18 15,Jm 55 56]) (.cond (.t 55) (.seq (.reg [Jo 57 2 3,Jm 58 1,Jd 59 2 7,Jl 60 59,Ji 61 (.call (Jf 42) [(.t 57),(.t 58),(.t 60)]),Jm 6 61]) .ret) (.seq (.seq (.reg [Je 63 18 16,Jm 62 63]) (.cond (.t 62) .skip (.seq (.reg [Je 64 18 17,Jm 62 64]) (.cond (.t 62) .skip (.reg [Je 65 18 18,Jm 62 65]))))) (.cond (.t 62) (.seq (.reg [Jo 66 2 3,Jm 67 1,Jd 68 1 7,Jl 69 68,Ji 70 (.call (Jf 42) [(.t 66),(.t 67),(.t 69)]),Jm 6 70]) .ret) (.seq (.reg [Je 72 18 19,Jm 71 72]) (.cond (.t 71) (.seq (.reg [Jo 73 2 3,Jd 74 4 7,Jl 75 74,Ji 76 (.call (Jf 29) [(.t 73),(.t 75)]),Jm 11 76]) (.seq (.seq (.reg [Jm 77 11,Ji 78 (.bin .lss (.t 77) (Jk 0))]) (.cond (.t 78) (.seq (.reg [Ji 6 (.mov (Jk 0))]) .ret) .skip)) (.seq (.reg [Jd 79 0 3,Jl 80 79,Jm 81 11,Jx 82 7 80 81,Jd 83 4 82,Jl 84 83,Jm 6 84]) .ret))) .skip)))))))))))) (.seq (.reg [Ji 6 (.mov (Jk 2))]) .ret)))),[],false⟩
def a43_0:ACode:=(.seq (.seq (.reg [Jm 26 10,Jm 27 9,Jn 28 27,Ji 29 (.bin .lss (.t 26) (.t 28))]) (.cond (.t 29) .skip (.exit 0))) (.seq (.block 1 (.plan [Js 0 (Jo 32 2 4),Js 1 (Jm 33 9),Js 2 (Jm 34 10),Js 3 (Ji 35 (.indexAddr 1 false none (.t 33) (.t 34))),Js 4 (Jl 36 35),Js 5 (Jm 37 2),Js 6 (Jm 38 3),⟨7,Ji 39 (.call (Jf 43) [(.t 32),(.t 36),(.t 37),(.t 38)]),[]⟩,Js 8 (Jm 2 39)])) (.reg [Jm 30 10,Ja 31 30,Jm 10 31])))
def a43:AFunc:=⟨41,[.tmp 8],(.seq (.reg [Ji 4 (.box 2 (.t 0) false),Ji 8 (.mov (.k (.lst 1 [] .tight)))]) (.seq (.seq (.reg [Jm 11 2,Jn 12 11,Jm 13 3,Ji 14 (.bin .geq (.t 12) (.t 13))]) (.cond (.t 14) (.seq (.reg [Jm 15 2,Jm 8 15]) .ret) .skip)) (.seq (.reg [Jm 16 2,Jm 17 1,Ji 18 (.mkLit 1 [(.int .i64 0)] [(0,1,(.t 17))] false),Ji 19 (.append 1 8 (some 3) (.t 16) (.t 18)),Jm 2 19]) (.seq (.reg [Jd 20 1 4,Jl 21 20,Jm 22 1,Jx 23 9 21 22,Jo 24 9 23,Ji 25 (.call (Jf 68) [(.t 24)]),Jm 9 25]) (.seq (.seq (.reg [Ji 10 (.mov (Jk 0))]) (.block 0 (.loop a43_0))) (.seq (.reg [Jm 40 2,Jm 8 40]) .ret)))))),[],true⟩
def a46:AFunc:=⟨17,[.tmp 4],(.seq (.reg [Ji 2 (.box 2 (.t 0) false),Ji 3 (.box 2 (.t 1) false),Ji 4 (.mov (Jk 0))]) (.seq (.plan [Js 0 (Jd 5 1 2),Js 1 (Jl 6 5),Js 2 (Jd 7 1 3),Js 3 (Jl 8 7),Js 5 (Jd 10 0 2),Js 6 (Jl 11 10),Js 7 (Jd 12 0 3),Js 8 (Jl 13 12),⟨4,Ji 9 (.call (Jf 48) [(.t 6),(.t 8)]),[6,8]⟩,⟨9,Ji 14 (.call (Jf 49) [(.t 11),(.t 13)]),[]⟩,⟨10,Ji 15 (.mkLit 1 [(.int .i64 0),(.int .i64 0)] [(0,1,(.t 9)),(1,1,(.t 14))] false),[]⟩,⟨11,Ji 16 (.call (Jf 47) [(.t 15)]),[]⟩,Js 12 (Jm 4 16)]) .ret)),[],false⟩
def a47_0:ACode:=(.seq (.reg [Ji 9 (.bin .lss (.t 8) (.t 7))]) (.seq (.cond (.t 9) .skip (.exit 0)) (.seq (.block 1 (.seq (.reg [Ji 10 (.indexAddr 1 false none (.t 6) (.t 8)),Jl 11 10,Jm 5 11]) (.seq (.reg [Jm 12 5,Jm 13 3,Ji 14 (.bin .neq (.t 12) (.t 13))]) (.cond (.t 14) (.seq (.reg [Jm 15 5,Jm 2 15]) .ret) .skip)))) (.reg [Ja 16 8,Jm 8 16]))))
def a47:AFunc:=⟨18,[.tmp 2],(.seq (.reg [Ji 2 (.mov (Jk 0))]) (.seq (.reg [Ji 3 (.mov (Jk 0))]) (.seq (.seq (.reg [Jm 6 0,Jn 7 6,Ji 8 (.mov (Jk 0))]) (.block 0 (.loop a47_0))) (.seq (.reg [Jm 17 3,Jm 2 17]) .ret)))),[],false⟩
def a48:AFunc:=⟨20,[.tmp 4],(.seq (.reg [Ji 4 (.mov (Jk 0))]) (.seq (.reg [Jm 7 0,Ji 8 (.call (Jf 72) [(.t 7)]),Jm 5 8]) (.seq (.reg [Jm 9 1,Ji 10 (.call (Jf 72) [(.t 9)]),Jm 6 10]) (.seq (.seq (.reg [Jm 11 5]) (.cond (.t 11) (.seq (.seq (.reg [Jm 12 6]) (.cond (.t 12) (.seq (.reg [Ji 4 (.mov (Jk 0))]) .ret) .skip)) (.seq (.reg [Ji 4 (.mov (.k (.int .i64 (-1))))]) .ret)) .skip)) (.seq (.seq (.reg [Jm 13 6]) (.cond (.t 13) (.seq (.reg [Ji 4 (.mov (Jk 1))]) .ret) .skip)) (.seq (.seq (.reg [Jm 14 0,Jm 15 1,Ji 16 (.bin .lss (.t 14) (.t 15))]) (.cond (.t 16) (.seq (.reg [Ji 4 (.mov (.k (.int .i64 (-1))))]) .ret) .skip)) (.seq (.seq (.reg [Jm 17 0,Jm 18 1,Ji 19 (.bin .gtr (.t 17) (.t 18))]) (.cond (.t 19) (.seq (.reg [Ji 4 (.mov (Jk 1))]) .ret) .skip)) (.seq (.reg [Ji 4 (.mov (Jk 0))]) .ret)))))))),[],false⟩
def a49:AFunc:=⟨20,[.tmp 4],(.seq (.reg [Ji 4 (.mov (Jk 0))]) (.seq (.reg [Jm 7 0,Ji 8 (.call (Jf 73) [(.t 7)]),Jm 5 8]) (.seq (.reg [Jm 9 1,Ji 10 (.call (Jf 73) [(.t 9)]),Jm 6 10]) (.seq (.seq (.reg [Jm 11 5]) (.cond (.t 11) (.seq (.seq (.reg [Jm 12 6]) (.cond (.t 12) (.seq (.reg [Ji 4 (.mov (Jk 0))]) .ret) .skip)) (.seq (.reg [Ji 4 (.mov (.k (.int .i64 (-1))))]) .ret)) .skip)) (.seq (.seq (.reg [Jm 13 6]) (.cond (.t 13) (.seq (.reg [Ji 4 (.mov (Jk 1))]) .ret) .skip)) (.seq (.seq (.reg [Jm 14 0,Jm 15 1,Ji 16 (.bin .lss (.t 14) (.t 15))]) (.cond (.t 16) (.seq (.reg [Ji 4 (.mov (.k (.int .i64 (-1))))]) .ret) .skip)) (.seq (.seq (.reg [Jm 17 0,Jm 18 1,Ji 19 (.bin .gtr (.t 17) (.t 18))]) (.cond (.t 19) (.seq (.reg [Ji 4 (.mov (Jk 1))]) .ret) .skip)) (.seq (.reg [Ji 4 (.mov (Jk 0))]) .ret)))))))),[],false⟩
def a50_0:ACode:=(.seq (.seq (.reg [Jm 29 5,Jm 30 4,Jn 31 30,Ji 32 (.bin .lss (.t 29) (.t 31))]) (.cond (.t 32) .skip (.exit 2))) (.seq (.block 3 (.seq (.plan [Js 0 (Jm 35 4),Js 1 (Jm 36 5),Js 2 (Jx 37 2 35 36),Js 3 (Jo 38 2 37),Js 4 (Jm 39 4),Js 5 (Jm 40 5),Js 6 (Ji 41 (.bin .sub (.t 40) (Jk 1))),Js 7 (Jx 42 2 39 41),Js 8 (Jo 43 2 42),⟨9,Ji 44 (.eqAgg [0,0] true (.t 38) (.t 43)),[]⟩]) (.cond (.t 44) (.seq (.reg [Jm 45 0,Jm 46 3,Jm 47 4,Jm 48 5,Jx 49 2 47 48,Jo 50 2 49,Jx 51 2 45 46,⟨none,.store 2 (.t 51) (.t 50),none⟩]) (.reg [Jm 52 3,Ja 53 52,Jm 3 53])) .skip))) (.reg [Jm 33 5,Ja 34 33,Jm 5 34])))
def a50_1:ACode:=(.seq (.seq (.reg [Jm 10 3,Jm 11 0,Jn 12 11,Ji 13 (.bin .lss (.t 10) (.t 12))]) (.cond (.t 13) .skip (.exit 0))) (.seq (.block 1 (.seq (.plan [Js 0 (Jm 16 0),Js 1 (Jm 17 3),Js 2 (Jx 18 2 16 17),Js 3 (Jo 19 2 18),Js 4 (Jm 20 0),Js 5 (Jm 21 3),Js 6 (Ji 22 (.bin .sub (.t 21) (Jk 1))),Js 7 (Jx 23 2 20 22),Js 8 (Jo 24 2 23),⟨9,Ji 25 (.eqAgg [0,0] false (.t 19) (.t 24)),[]⟩]) (.cond (.t 25) (.seq (.reg [Jm 26 0,Jm 27 3,Ji 28 (.sliceLst 2 (.t 26) (some (.t 27)) none none),Jm 4 28]) (.seq (.seq (.reg [Ji 5 (.mov (Jk 1))]) (.block 2 (.loop a50_0))) (.seq (.reg [Jm 54 0,Jm 55 3,Ji 56 (.sliceLst 2 (.t 54) (some (.t 55)) none none),⟨none,.clearSl 2 [(.int .i64 0),(.int .i64 0)] (.t 56),none⟩]) (.seq (.reg [Jm 57 0,Jm 58 3,Ji 59 (.sliceLst 2 (.t 57) none (some (.t 58)) none),Jm 2 59]) .ret)))) .skip))) (.reg [Jm 14 3,Ja 15 14,Jm 3 15])))
def a50:AFunc:=⟨61,[.tmp 2],(.seq (.reg [Ji 2 (.mov (.k (.lst 2 [] .tight)))]) (.seq (.seq (.reg [Jm 6 0,Jn 7 6,Ji 8 (.bin .lss (.t 7) (Jk 2))]) (.cond (.t 8) (.seq (.reg [Jm 9 0,Jm 2 9]) .ret) .skip)) (.seq (.seq (.reg [Ji 3 (.mov (Jk 1))]) (.block 0 (.loop a50_1))) (.seq (.reg [Jm 60 0,Jm 2 60]) .ret)))),[],false⟩
def a51_0:ACode:=(.seq (.seq (.reg [Jm 49 6,Jd 50 3 5,Jl 51 50,Jn 52 51,Ji 53 (.bin .lss (.t 49) (.t 52))]) (.cond (.t 53) .skip (.exit 4))) (.seq (.block 5 (.seq (.reg [Jd 57 3 5,Jl 58 57,Jm 59 6,Jx 60 9 58 59,Jd 61 0 60,Jl 62 61,Ji 63 (.call (Jf 64) [(.t 62)]),Jm 56 63,Ji 64 (.extract (.t 56) 0),Ji 65 (.extract (.t 56) 1),Jm 7 64,Jm 8 65]) (.seq (.plan [Js 0 (Jo 66 2 1),Js 1 (Jd 67 3 5),Js 2 (Jl 68 67),Js 3 (Jm 69 6),Js 4 (Jx 70 9 68 69),Js 5 (Jd 71 3 70),Js 6 (Jl 72 71),Js 7 (Jm 73 7),⟨8,Ji 74 (.call (Jf 75) [(.t 66),(.t 72),(.t 73)]),[]⟩,Js 9 (Ji 75 (.un .not (.t 74))),Js 10 (Jm 76 75),Js 11 (Jh 77 76 (.load 2 true (.t 1))),Js 12 (Jh 78 76 (.fieldAddr 3 1 false (.t 5))),Js 13 (Jh 79 76 (.load 1 false (.t 78))),Js 14 (Jh 80 76 (.mov (.t 6))),Js 15 (Jh 81 76 (.indexAddr 9 true none (.t 79) (.t 80))),Js 16 (Jh 82 76 (.fieldAddr 4 1 false (.t 81))),Js 17 (Jh 83 76 (.load 1 false (.t 82))),Js 18 (Jh 84 76 (.mov (.t 8))),⟨19,Jh 85 76 (.call (Jf 75) [(.t 77),(.t 83),(.t 84)]),[]⟩,Js 20 (Jh 86 76 (.un .not (.t 85))),Js 21 (Ji 87 (.pick (.t 76) (.k (.bool true)) (.t 86)))]) (.cond (.t 87) (.seq (.reg [Ji 2 (.mov (.k (.bool false)))]) .ret) .skip)))) (.reg [Jm 54 6,Ja 55 54,Jm 6 55])))
def a51_1:ACode:=(.seq (.seq (.reg [Jm 24 4,Jd 25 0 1,Jl 26 25,Jn 27 26,Ji 28 (.bin .lss (.t 24) (.t 27))]) (.cond (.t 28) .skip (.exit 2))) (.seq (.block 3 (.seq (.reg [Jd 31 0 1,Jl 32 31,Jm 33 4,Jx 34 7 32 33,Jo 35 7 34,Ji 5 (.new (.agg [(.int .i64 0),(.str []),(.lst 2 [] .tight),(.lst 9 [] .tight),(.int .i64 0),(.int .i64 0),(.int .i64 0)]) true none),⟨none,.store 7 (.t 5) (.t 35),none⟩]) (.seq (.seq (.reg [Jo 36 2 1,Jd 37 5 5,Jl 38 37,Jd 39 0 5,Jl 40 39,Je 41 40 1,Jm 42 41,Jh 43 42 (.fieldAddr 0 1 false (.t 5)),Jh 44 42 (.load 1 false (.t 43)),Jh 45 42 (.bin .eql (.t 44) (Jk 2)),Ji 46 (.pick (.t 42) (.k (.bool true)) (.t 45)),Ji 47 (.call (Jf 75) [(.t 36),(.t 38),(.t 46)]),Ji 48 (.un .not (.t 47))]) (.cond (.t 48) (.seq (.reg [Ji 2 (.mov (.k (.bool false)))]) .ret) .skip)) (.seq (.reg [Ji 6 (.mov (Jk 0))]) (.block 4 (.loop a51_0)))))) (.reg [Jm 29 4,Ja 30 29,Jm 4 30])))
def a51_2:ACode:=(.seq (.seq (.reg [Jm 9 3,Jd 10 1 1,Jl 11 10,Jn 12 11,Ji 13 (.bin .lss (.t 9) (.t 12))]) (.cond (.t 13) .skip (.exit 0))) (.seq (.block 1 (.seq (.reg [Jd 16 1 1,Jl 17 16,Jm 18 3,Jx 19 9 17 18,Jo 20 9 19,Jm 21 3,Ji 22 (.call (Jf 74) [(.t 20),(.t 21)]),Ji 23 (.un .not (.t 22))]) (.cond (.t 23) (.seq (.reg [Ji 2 (.mov (.k (.bool false)))]) .ret) .skip))) (.reg [Jm 14 3,Ja 15 14,Jm 3 15])))
def a51:AFunc:=⟨88,[.tmp 2],(.seq (.reg [Ji 1 (.box 2 (.t 0) false),Ji 2 (.mov (.k (.bool false)))]) (.seq (.seq (.reg [Ji 3 (.mov (Jk 0))]) (.block 0 (.loop a51_2))) (.seq (.seq (.reg [Ji 4 (.mov (Jk 0))]) (.block 2 (.loop a51_1))) (.seq (.reg [Ji 2 (.mov (.k (.bool true)))]) .ret)))),[],false⟩
def a52:AFunc:=⟨16,[.tmp 2],(.seq (.reg [Ji 1 (.box 2 (.t 0) false),Ji 2 (.mov (.k (.bool false)))]) (.seq (.reg [Ji 3 (.new .nilFunc true none),⟨none,.store 1 (.t 3) (Jf 76),none⟩]) (.seq (.reg [Ji 4 (.new .nilFunc true none),⟨none,.store 1 (.t 4) (Jf 77),none⟩]) (.seq (.reg [Ji 6 (.mkFunc 78 [] [(.t 3),(.t 4)]),Jm 5 6]) (.seq (.reg [Jo 7 2 1,Ji 8 (.call (Jf 80) [(.t 7)]),Jm 9 8,Jg 10 9 (.fieldAddr 0 1 false (.t 1)),Jg 11 9 (.load 1 false (.t 10)),Jg 12 9 (.mov (.t 5)),Jg 13 9 (.call (Jf 81) [(.t 11),(.t 12)]),Jg 14 9 (.un .not (.t 13)),Ji 15 (.pick (.t 9) (.t 14) (.k (.bool false))),Jm 2 15]) .ret))))),[],false⟩
def a53:AFunc:=⟨4,[.tmp 2],(.seq (.reg [Ji 1 (.box 2 (.t 0) false),Ji 2 (.mov (.k .nilFunc))]) (.seq (.reg [Ji 3 (.mkFunc 82 [] [(.t 1)]),Jm 2 3]) .ret)),[],false⟩
def a54_0:ACode:=(.seq (.seq (.reg [Jm 31 10,Jm 32 9,Jn 33 32,Ji 34 (.bin .lss (.t 31) (.t 33))]) (.cond (.t 34) .skip (.exit 0))) (.seq (.block 1 (.seq (.reg [Jm 37 9,Jm 38 10,Ji 39 (.indexAddr 1 false none (.t 37) (.t 38)),Jl 40 39,Jm 41 2,Ji 42 (.bin .eql (.t 40) (.t 41))]) (.cond (.t 42) (.seq (.reg [Ji 6 (.mov (.k (.bool true)))]) .ret) .skip))) (.reg [Jm 35 10,Ja 36 35,Jm 10 36])))
def a54:AFunc:=⟨43,[.tmp 6],(.seq (.reg [Ji 3 (.box 7 (.t 0) false),Ji 6 (.mov (.k (.bool false)))]) (.seq (.reg [Jo 12 7 3,Jm 13 1,Ji 14 (.call (Jf 32) [(.t 12),(.t 13)]),Jm 11 14,Ji 15 (.extract (.t 11) 0),Ji 16 (.extract (.t 11) 1),Ji 7 (.new (.agg [(.str []),(.int .i64 0),(.int .i64 0),(.int .i64 0)]) true none),⟨none,.store 4 (.t 7) (.t 15),none⟩,Jm 8 16]) (.seq (.seq (.reg [Jm 17 8,Ji 18 (.un .not (.t 17)),Jm 19 18,Jh 20 19 (.fieldAddr 1 1 false (.t 7)),Jh 21 19 (.load 1 false (.t 20)),Jh 22 19 (.bin .neq (.t 21) (Jk 5)),Ji 23 (.pick (.t 19) (.k (.bool true)) (.t 22))]) (.cond (.t 23) (.seq (.reg [Ji 6 (.mov (.k (.bool false)))]) .ret) .skip)) (.seq (.reg [Jd 24 3 3,Jl 25 24,Jd 26 3 7,Jl 27 26,Jx 28 9 25 27,Jd 29 5 28,Jl 30 29,Jm 9 30]) (.seq (.seq (.reg [Ji 10 (.mov (Jk 0))]) (.block 0 (.loop a54_0))) (.seq (.reg [Ji 6 (.mov (.k (.bool false)))]) .ret)))))),[],false⟩
def a55_0:ACode:=(.seq (.seq (.reg [Jm 14 5,Jm 15 0,Ji 16 (.lenStr (.t 15)),Ji 17 (.bin .lss (.t 14) (.t 16))]) (.cond (.t 17) .skip (.exit 0))) (.block 1 (.seq (.reg [Jm 19 0,Jm 20 5,Ji 21 (.call (Jf 86) [(.t 19),(.t 20)]),Jm 18 21,Ji 22 (.extract (.t 18) 0),Ji 23 (.extract (.t 18) 1),Ji 6 (.new (.agg [(.int .i64 0),(.str []),(.int .i64 0),(.int .i64 0)]) true none),⟨none,.store 4 (.t 6) (.t 22),none⟩,Jm 7 23]) (.seq (.seq (.reg [Jm 24 7,Ji 25 (.un .not (.t 24))]) (.cond (.t 25) (.seq (.reg [Jm 26 5,Ji 27 (.build [(.int .i64 0),(.int .i64 0)] [(0,1,(Jk 1)),(1,1,(.t 26))]),Ji 2 (.mov (.k (.lst 4 [] .tight))),⟨none,.store 2 (.t 3) (.t 27),none⟩]) .ret) .skip)) (.seq (.reg [Jm 28 4,Jo 29 4 6,Ji 30 (.mkLit 4 [(.int .i64 0),(.str []),(.int .i64 0),(.int .i64 0)] [(0,4,(.t 29))] false),Ji 31 (.append 4 40 (some 87) (.t 28) (.t 30)),Jm 4 31]) (.reg [Jm 32 0,Jm 33 5,Jd 34 1 6,Jl 35 34,Ji 36 (.lenStr (.t 35)),Ji 37 (.bin .add (.t 33) (.t 36)),Ji 38 (.call (Jf 85) [(.t 32),(.t 37)]),Jm 5 38]))))))
def a55:AFunc:=⟨46,[.tmp 2,.cell 3 2 true],(.seq (.reg [Ji 2 (.mov (.k (.lst 4 [] .tight))),Ji 3 (.new (.agg [(.int .i64 0),(.int .i64 0)]) true none)]) (.seq (.seq (.reg [Jm 8 0,Ji 9 (.lenStr (.t 8)),Ji 10 (.bin .gtr (.t 9) (Jk 20000))]) (.cond (.t 10) (.seq (.reg [Ji 11 (.build [(.int .i64 0),(.int .i64 0)] [(0,1,(Jk 10))]),Ji 2 (.mov (.k (.lst 4 [] .tight))),⟨none,.store 2 (.t 3) (.t 11),none⟩]) .ret) .skip)) (.seq (.reg [Ji 4 (.mov (.k (.lst 4 [] .tight)))]) (.seq (.reg [Jm 12 0,Ji 13 (.call (Jf 85) [(.t 12),(Jk 0)]),Jm 5 13]) (.seq (.block 0 (.loop a55_0)) (.seq (.reg [Jm 39 4,Jm 40 0,Ji 41 (.lenStr (.t 40)),Ji 42 (.build [(.int .i64 0),(.str []),(.int .i64 0),(.int .i64 0)] [(0,1,(Jk 5)),(3,1,(.t 41))]),Ji 43 (.mkLit 4 [(.int .i64 0),(.str []),(.int .i64 0),(.int .i64 0)] [(0,4,(.t 42))] false),Ji 44 (.append 4 40 (some 87) (.t 39) (.t 43)),Ji 45 (.build [(.int .i64 0),(.int .i64 0)] []),Jm 2 44,⟨none,.store 2 (.t 3) (.t 45),none⟩]) .ret)))))),[],false⟩
def a56:AFunc:=⟨80,[.tmp 2],(.seq (.reg [Ji 2 (.mov (Jk 0))]) (.seq (.reg [Ji 3 (.mov (Jk 0))]) (.seq (.seq (.reg [Jm 10 0,Ji 11 (.call (Jf 87) [(.t 10)])]) (.cond (.t 11) (.seq (.plan [Js 0 (Jm 12 0),Js 1 (Ji 13 (.nilCheck (.t 12))),Js 2 (Jd 14 0 13),Js 3 (Jl 15 14),Js 4 (Jm 16 0),Js 5 (Ji 17 (.nilCheck (.t 16))),Js 6 (Jd 18 1 17),Js 7 (Jl 19 18),Js 8 (Jx 20 4 15 19),Js 9 (Jd 21 3 20),Js 10 (Jl 22 21),Js 11 (Jm 4 22)]) (.seq (.reg [Jm 23 0,Ji 24 (.call (Jf 88) [(.t 23),(.k (.str [105,102]))])]) (.cond (.t 24) (.seq (.reg [Jm 25 0,Ji 26 (.call (Jf 56) [(.t 25)]),Jm 5 26]) (.seq (.reg [Jm 27 0,Ji 28 (.call (Jf 89) [(.t 27),(.k (.str [116,104,101,110]))])]) (.seq (.reg [Jm 29 0,Ji 30 (.call (Jf 56) [(.t 29)]),Jm 6 30]) (.seq (.reg [Jm 31 0,Ji 32 (.call (Jf 89) [(.t 31),(.k (.str [101,108,115,101]))])]) (.seq (.reg [Jm 33 0,Ji 34 (.call (Jf 56) [(.t 33)]),Jm 7 34]) (.reg [Jm 35 0,Jm 36 5,Jm 37 6,Jm 38 7,Jm 39 4,Ji 40 (.build [(.int .i64 0),(.int .i64 0),(.int .i64 0),(.int .i64 0),(.str []),(.str []),(.int .i64 0),(.lst 1 [] .tight),(.int .i64 0)] [(0,1,(Jk 15)),(1,1,(.t 36)),(2,1,(.t 37)),(3,1,(.t 38)),(8,1,(.t 39))]),Ji 41 (.call (Jf 90) [(.t 35),(.t 40)]),Jm 3 41])))))) (.seq (.reg [Jm 42 0,Ji 43 (.call (Jf 91) [(.t 42),(Jk 1)]),Jm 3 43]) (.seq (.plan [Js 0 (Jm 44 0),Js 1 (Ji 45 (.nilCheck (.t 44))),Js 2 (Jd 46 0 45),Js 3 (Jl 47 46),Js 4 (Jm 48 0),Js 5 (Ji 49 (.nilCheck (.t 48))),Js 6 (Jd 50 1 49),Js 7 (Jl 51 50),Js 8 (Jx 52 4 47 51),Js 9 (Jd 53 3 52),Js 10 (Jl 54 53),Js 11 (Jm 4 54)]) (.seq (.reg [Ji 8 (.mov (Jk 17))]) (.seq (.seq (.reg [Jm 55 0,Ji 56 (.call (Jf 92) [(.t 55),(.k (.str [102,98,121]))])]) (.cond (.t 56) (.reg [Ji 8 (.mov (Jk 18))]) .skip)) (.seq (.reg [Jm 57 0,Ji 58 (.call (Jf 88) [(.t 57),(.k (.str [45,62]))]),Jm 59 58,Jh 60 59 (.mov (.t 0)),Jh 61 59 (.call (Jf 88) [(.t 60),(.k (.str [102,98,121]))]),Ji 62 (.pick (.t 59) (.k (.bool true)) (.t 61))]) (.cond (.t 62) (.seq (.reg [Jm 63 0,Ji 64 (.call (Jf 56) [(.t 63)]),Jm 9 64]) (.reg [Jm 65 0,Jm 66 8,Jm 67 3,Jm 68 9,Jm 69 4,Ji 70 (.build [(.int .i64 0),(.int .i64 0),(.int .i64 0),(.int .i64 0),(.str []),(.str []),(.int .i64 0),(.lst 1 [] .tight),(.int .i64 0)] [(0,1,(.t 66)),(1,1,(.t 67)),(2,1,(.t 68)),(8,1,(.t 69))]),Ji 71 (.call (Jf 90) [(.t 65),(.t 70)]),Jm 3 71])) .skip))))))))) .skip)) (.seq (.reg [Jm 72 0,Ji 73 (.nilCheck (.t 72)),Jd 74 4 73,Jl 75 74,Ji 76 (.bin .sub (.t 75) (Jk 1)),Ji 77 (.nilCheck (.t 72)),Jd 78 4 77,⟨none,.store 1 (.t 78) (.t 76),none⟩]) (.seq (.reg [Jm 79 3,Jm 2 79]) .ret))))),[],true⟩
def a57:AFunc:=⟨73,[.cell 2 7 true],(.seq (.reg [Ji 2 (.new (.agg [(.int .i64 0),(.str []),(.lst 2 [] .tight),(.lst 9 [] .tight),(.int .i64 0),(.int .i64 0),(.int .i64 0)]) true none)]) (.seq (.reg [Ji 3 (.new (.agg [(.int .i64 0),(.str []),(.lst 2 [] .tight),(.lst 9 [] .tight),(.int .i64 0),(.int .i64 0),(.int .i64 0)]) true none)]) (.seq (.plan [Js 0 (Jm 4 0),Js 1 (Ji 5 (.nilCheck (.t 4))),Js 2 (Jd 6 0 5),Js 3 (Jl 7 6),Js 4 (Jm 8 0),Js 5 (Ji 9 (.nilCheck (.t 8))),Js 6 (Jd 10 1 9),Js 7 (Jl 11 10),Js 8 (Jx 12 4 7 11),Js 9 (Jd 13 3 12),Js 10 (Jl 14 13),Js 11 (Jd 15 6 3),⟨12,⟨none,.store 1 (.t 15) (.t 14),none⟩,[]⟩]) (.seq (.seq (.reg [Jm 16 0,Ji 17 (.call (Jf 88) [(.t 16),(.k (.str [102,117,110]))])]) (.cond (.t 17) (.reg [Jd 18 0 3,⟨none,.store 1 (.t 18) (Jk 1),none⟩]) (.seq (.reg [Jm 19 0,Ji 20 (.call (Jf 88) [(.t 19),(.k (.str [110,111,100,101]))])]) (.cond (.t 20) (.reg [Jd 21 0 3,⟨none,.store 1 (.t 21) (Jk 2),none⟩]) (.seq (.reg [Jd 22 0 3,⟨none,.store 1 (.t 22) (Jk 3),none⟩]) (.reg [Jm 23 0,Ji 24 (.call (Jf 89) [(.t 23),(.k (.str [104,121,98,114,105,100]))])])))))) (.seq (.reg [Jm 25 0,Ji 26 (.call (Jf 93) [(.t 25)]),Jd 27 1 3,⟨none,.store 1 (.t 27) (.t 26),none⟩]) (.seq (.reg [Jm 28 0,Ji 29 (.call (Jf 94) [(.t 28)]),Jd 30 2 3,⟨none,.store 1 (.t 30) (.t 29),none⟩]) (.seq (.seq (.reg [Jd 31 0 3,Jl 32 31,Je 33 32 3]) (.cond (.t 33) (.seq (.reg [Jm 34 0,Ji 35 (.call (Jf 89) [(.t 34),(.k (.str [123]))])]) (.seq (.reg [Jm 36 0,Ji 37 (.call (Jf 95) [(.t 36),(.k (.bool true))]),Jd 38 3 3,⟨none,.store 1 (.t 38) (.t 37),none⟩]) (.seq (.reg [Jm 39 0,Ji 40 (.call (Jf 89) [(.t 39),(.k (.str [125]))])]) (.seq (.reg [Jo 41 7 3,⟨none,.store 7 (.t 2) (.t 41),none⟩]) .ret)))) .skip)) (.seq (.reg [Jm 42 0,Ji 43 (.call (Jf 89) [(.t 42),(.k (.str [58]))])]) (.seq (.reg [Jm 44 0,Ji 45 (.call (Jf 96) [(.t 44)]),Jd 46 4 3,⟨none,.store 1 (.t 46) (.t 45),none⟩]) (.seq (.seq (.reg [Jd 47 0 3,Jl 48 47,Je 49 48 1]) (.cond (.t 49) (.seq (.reg [Jm 50 0,Ji 51 (.call (Jf 89) [(.t 50),(.k (.str [61]))])]) (.seq (.reg [Jm 52 0,Ji 53 (.call (Jf 56) [(.t 52)]),Jd 54 5 3,⟨none,.store 1 (.t 54) (.t 53),none⟩]) (.seq (.reg [Jm 55 0,Ji 56 (.call (Jf 89) [(.t 55),(.k (.str [59]))])]) (.seq (.reg [Jo 57 7 3,⟨none,.store 7 (.t 2) (.t 57),none⟩]) .ret)))) .skip)) (.seq (.reg [Jm 58 0,Ji 59 (.call (Jf 89) [(.t 58),(.k (.str [123]))])]) (.seq (.reg [Jm 60 0,Ji 61 (.call (Jf 95) [(.t 60),(.k (.bool false))]),Jd 62 3 3,⟨none,.store 1 (.t 62) (.t 61),none⟩]) (.seq (.reg [Jm 63 0,Ji 64 (.call (Jf 89) [(.t 63),(.k (.str [114,101,116,117,114,110]))])]) (.seq (.reg [Jm 65 0,Ji 66 (.call (Jf 56) [(.t 65)]),Jd 67 5 3,⟨none,.store 1 (.t 67) (.t 66),none⟩]) (.seq (.reg [Jm 68 0,Ji 69 (.call (Jf 89) [(.t 68),(.k (.str [59]))])]) (.seq (.reg [Jm 70 0,Ji 71 (.call (Jf 89) [(.t 70),(.k (.str [125]))])]) (.seq (.reg [Jo 72 7 3,⟨none,.store 7 (.t 2) (.t 72),none⟩]) .ret))))))))))))))))),[],true⟩
def a58:AFunc:=⟨26,[],(.seq (.reg [Jm 4 0,Ji 5 (.nilCheck (.t 4)),Ji 6 (.fieldAddr 5 2 true (.t 5)),Jd 7 0 6,Jl 8 7,Je 9 8 0]) (.cond (.t 9) (.plan [Js 0 (Jm 10 0),Js 1 (Jm 11 1),Js 2 (Jm 12 0),Js 3 (Ji 13 (.nilCheck (.t 12))),Js 4 (Jd 14 0 13),Js 5 (Jl 15 14),Js 6 (Jm 16 0),Js 7 (Ji 17 (.nilCheck (.t 16))),Js 8 (Jd 18 1 17),Js 9 (Jl 19 18),Js 10 (Jx 20 4 15 19),Js 11 (Jd 21 3 20),Js 12 (Jl 22 21),⟨13,Ji 23 (.build [(.int .i64 0),(.int .i64 0)] [(0,1,(.t 11)),(1,1,(.t 22))]),[]⟩,Js 14 (Ji 24 (.nilCheck (.t 10))),Js 15 (Ji 25 (.fieldAddr 5 2 true (.t 24))),⟨16,⟨none,.store 2 (.t 25) (.t 23),none⟩,[]⟩]) .skip)),[],true⟩
def a59:AFunc:=⟨18,[.tmp 4],(.seq (.reg [Ji 2 (.box 2 (.t 0) false),Ji 4 (.mov (.k (.bool false)))]) (.seq (.reg [Jm 5 1,Ji 6 (.bin .geq (.t 5) (Jk 0)),Jm 7 6,Jg 8 7 (.mov (.t 1)),Jg 9 7 (.fieldAddr 0 1 false (.t 2)),Jg 10 7 (.load 1 false (.t 9)),Jg 11 7 (.lenSl (.t 10)),Jg 12 7 (.bin .lss (.t 8) (.t 11)),Ji 13 (.pick (.t 7) (.t 12) (.k (.bool false))),Jm 14 13,Jg 15 14 (.load 2 true (.t 2)),Jg 16 14 (.call (Jf 52) [(.t 15)]),Ji 17 (.pick (.t 14) (.t 16) (.k (.bool false))),Jm 4 17]) .ret)),[],false⟩
def a60_0:ACode:=(.seq (.reg [Ji 32 (.bin .lss (.t 31) (.t 30))]) (.seq (.cond (.t 32) .skip (.exit 2)) (.seq (.block 3 (.seq (.reg [Jm 33 31,Jx 34 9 29 31,Jo 35 9 34,Ji 7 (.new (.agg [(.int .i64 0),(.str []),(.int .i64 0),(.int .i64 0),(.int .i64 0),(.lst 1 [] .tight),(.str []),(.str []),(.int .i64 0)]) true none),Jm 6 33,⟨none,.store 9 (.t 7) (.t 35),none⟩]) (.seq (.reg [Jo 37 9 7,Ji 38 (.call (Jf 97) [(.t 37)]),Jm 36 38,Ji 39 (.extract (.t 36) 0),Ji 40 (.extract (.t 36) 1),Ji 8 (.new (.agg [(.str []),(.int .i64 0),(.int .i64 0),(.int .i64 0)]) true none),⟨none,.store 4 (.t 8) (.t 39),none⟩,Jm 9 40]) (.seq (.reg [Jm 41 9]) (.cond (.t 41) (.seq (.reg [Jm 42 6,Jd 43 3 8,⟨none,.store 1 (.t 43) (.t 42),none⟩]) (.reg [Jm 44 3,Jo 45 4 8,Ji 46 (.mkLit 4 [(.str []),(.int .i64 0),(.int .i64 0),(.int .i64 0)] [(0,4,(.t 45))] false),Ji 47 (.append 4 40 (some 47) (.t 44) (.t 46)),Jm 3 47])) .skip))))) (.reg [Ja 48 31,Jm 31 48]))))
def a60_1:ACode:=(.seq (.reg [Ji 14 (.bin .lss (.t 13) (.t 12))]) (.seq (.cond (.t 14) .skip (.exit 0)) (.seq (.block 1 (.seq (.reg [Jm 15 13,Jx 16 2 11 13,Jo 17 2 16,Ji 5 (.new (.agg [(.str []),(.int .i64 0)]) true none),Jm 4 15,⟨none,.store 2 (.t 5) (.t 17),none⟩]) (.reg [Jm 18 3,Jd 19 0 5,Jl 20 19,Jd 21 1 5,Jl 22 21,Jm 23 4,Ji 24 (.build [(.str []),(.int .i64 0),(.int .i64 0),(.int .i64 0)] [(0,1,(.t 20)),(1,1,(Jk 1)),(2,1,(.t 22)),(3,1,(.t 23))]),Ji 25 (.mkLit 4 [(.str []),(.int .i64 0),(.int .i64 0),(.int .i64 0)] [(0,4,(.t 24))] false),Ji 26 (.append 4 40 (some 47) (.t 18) (.t 25)),Jm 3 26]))) (.reg [Ja 27 13,Jm 13 27]))))
def a60:AFunc:=⟨50,[.tmp 2],(.seq (.reg [Ji 1 (.box 7 (.t 0) false),Ji 2 (.mov (.k (.lst 4 [] .tight)))]) (.seq (.reg [Ji 3 (.mov (.k (.lst 4 [] .tight)))]) (.seq (.seq (.reg [Jd 10 2 1,Jl 11 10,Jn 12 11,Ji 13 (.mov (Jk 0))]) (.block 0 (.loop a60_1))) (.seq (.seq (.reg [Jd 28 3 1,Jl 29 28,Jn 30 29,Ji 31 (.mov (Jk 0))]) (.block 2 (.loop a60_0))) (.seq (.reg [Jm 49 3,Jm 2 49]) .ret))))),[],false⟩
def a61:AFunc:=⟨17,[.tmp 2],(.seq (.reg [Ji 1 (.box 7 (.t 0) false),Ji 2 (.mov (.k .nilMap))]) (.seq (.reg [Ji 6 (.mkMap),Ji 3 (.new .nilMap true none),⟨none,.store 1 (.t 3) (.t 6),none⟩]) (.seq (.seq (.reg [Jo 7 7 1,Ji 8 (.call (Jf 60) [(.t 7)]),Ji 9 (.call (Jf 98) [(.t 8)])]) (.block 0 (.rangeFunc (.t 9) [10,11] 0))) (.seq (.reg [Jl 16 3,Jm 2 16]) .ret)))),[((.reg [Ji 5 (.new (.agg [(.str []),(.int .i64 0),(.int .i64 0),(.int .i64 0)]) true none),⟨none,.store 4 (.t 5) (.t 11),none⟩]),(.block 1 (.reg [Jl 12 3,Jd 13 0 5,Jl 14 13,Jo 15 4 5,⟨none,.mapUpdate 1 (.t 12) (.t 14) (.t 15),none⟩])))],true⟩
def a62_0:ACode:=(.seq (.reg [Ji 10 (.bin .lss (.t 9) (.t 8))]) (.seq (.cond (.t 10) .skip (.exit 0)) (.seq (.block 1 (.seq (.reg [Jx 11 9 7 9,Jo 12 9 11,Ji 5 (.new (.agg [(.int .i64 0),(.str []),(.int .i64 0),(.int .i64 0),(.int .i64 0),(.lst 1 [] .tight),(.str []),(.str []),(.int .i64 0)]) true none),⟨none,.store 9 (.t 5) (.t 12),none⟩]) (.seq (.seq (.reg [Jd 13 0 5,Jl 14 13,Ji 15 (.bin .leq (.t 14) (Jk 5))]) (.cond (.t 15) (.reg [Jm 16 3,Jd 17 3 5,Jl 18 17,Ji 19 (.mkLit 1 [(.int .i64 0)] [(0,1,(.t 18))] false),Ji 20 (.append 1 8 (some 3) (.t 16) (.t 19)),Jm 3 20]) .skip)) (.seq (.reg [Jd 21 0 5,Jl 22 21,Je 23 22 2,Jm 24 23,Jh 25 24 (.fieldAddr 0 1 false (.t 5)),Jh 26 24 (.load 1 false (.t 25)),Jh 27 24 (.bin .eql (.t 26) (Jk 3)),Ji 28 (.pick (.t 24) (.k (.bool true)) (.t 27)),Jm 29 28,Jh 30 29 (.fieldAddr 0 1 false (.t 5)),Jh 31 29 (.load 1 false (.t 30)),Jh 32 29 (.bin .eql (.t 31) (Jk 5)),Ji 33 (.pick (.t 29) (.k (.bool true)) (.t 32)),Jm 34 33,Jh 35 34 (.fieldAddr 0 1 false (.t 5)),Jh 36 34 (.load 1 false (.t 35)),Jh 37 34 (.bin .eql (.t 36) (Jk 7)),Ji 38 (.pick (.t 34) (.k (.bool true)) (.t 37))]) (.cond (.t 38) (.reg [Jm 39 3,Jd 40 4 5,Jl 41 40,Ji 42 (.mkLit 1 [(.int .i64 0)] [(0,1,(.t 41))] false),Ji 43 (.append 1 8 (some 3) (.t 39) (.t 42)),Jm 3 43]) .skip))))) (.reg [Ja 44 9,Jm 9 44]))))
def a62:AFunc:=⟨54,[.tmp 2],(.seq (.reg [Ji 1 (.box 7 (.t 0) false),Ji 2 (.mov (.k (.lst 1 [] .tight)))]) (.seq (.reg [Ji 3 (.mov (.k (.lst 1 [] .tight)))]) (.seq (.seq (.reg [Jd 6 3 1,Jl 7 6,Jn 8 7,Ji 9 (.mov (Jk 0))]) (.block 0 (.loop a62_0))) (.seq (.seq (.reg [Jd 45 0 1,Jl 46 45,Ji 47 (.bin .neq (.t 46) (Jk 3))]) (.cond (.t 47) (.reg [Jm 48 3,Jd 49 5 1,Jl 50 49,Ji 51 (.mkLit 1 [(.int .i64 0)] [(0,1,(.t 50))] false),Ji 52 (.append 1 8 (some 3) (.t 48) (.t 51)),Jm 3 52]) .skip)) (.seq (.reg [Jm 53 3,Jm 2 53]) .ret))))),[],false⟩
def a63:AFunc:=⟨9,[.tmp 4],(.seq (.reg [Ji 2 (.box 2 (.t 0) false),Ji 3 (.box 1 (.t 1) false),Ji 4 (.mov (Jk 0))]) (.seq (.reg [Jd 5 0 2,Jl 6 5,Ji 7 (.mkFunc 100 [] [(.t 3)]),Ji 8 (.call (Jf 99) [(.t 6),(.t 7)]),Jm 4 8]) .ret)),[],false⟩
def a64:AFunc:=⟨24,[.tmp 2,.tmp 3],(.seq (.reg [Ji 2 (.mov (.k (.bool false))),Ji 3 (.mov (.k (.bool false)))]) (.seq (.reg [Jm 4 0,Ji 5 (.bin .geq (.t 4) (Jk 1)),Jm 6 5,Jg 7 6 (.mov (.t 0)),Jg 8 6 (.bin .leq (.t 7) (Jk 5)),Ji 9 (.pick (.t 6) (.t 8) (.k (.bool false))),Jm 10 0,Je 11 10 2,Jm 12 11,Jh 13 12 (.mov (.t 0)),Jh 14 12 (.bin .eql (.t 13) (Jk 3)),Ji 15 (.pick (.t 12) (.k (.bool true)) (.t 14)),Jm 16 15,Jh 17 16 (.mov (.t 0)),Jh 18 16 (.bin .eql (.t 17) (Jk 5)),Ji 19 (.pick (.t 16) (.k (.bool true)) (.t 18)),Jm 20 19,Jh 21 20 (.mov (.t 0)),Jh 22 20 (.bin .eql (.t 21) (Jk 7)),Ji 23 (.pick (.t 20) (.k (.bool true)) (.t 22)),Jm 2 9,Jm 3 23]) .ret)),[],false⟩
def a65_0:ACode:=(.seq (.reg [Ji 34 (.bin .lss (.t 33) (.t 32))]) (.seq (.cond (.t 34) .skip (.exit 2)) (.seq (.block 3 (.seq (.reg [Jm 35 33,Ji 36 (.indexAddr 1 false none (.t 31) (.t 33)),Jl 37 36,Jm 8 35,Jm 9 37]) (.seq (.seq (.reg [Jm 38 9,Ji 39 (.un .not (.t 38))]) (.cond (.t 39) (.exit 3) .skip)) (.seq (.plan [Js 0 (Jo 40 2 1),Js 1 (Jl 41 6),Js 2 (Jd 42 1 1),Js 3 (Jl 43 42),Js 4 (Jm 44 8),Js 5 (Jx 45 9 43 44),Js 6 (Jo 46 9 45),⟨7,Ji 47 (.call (Jf 104) [(.t 40),(.t 41),(.t 46)]),[]⟩]) (.block 4 (.rangeFunc (.t 47) [48,49] 0)))))) (.reg [Ja 54 33,Jm 33 54]))))
def a65_1:ACode:=(.seq (.reg [Ji 19 (.bin .lss (.t 18) (.t 17))]) (.seq (.cond (.t 19) .skip (.exit 0)) (.seq (.block 1 (.seq (.reg [Jm 20 18,Jm 5 20]) (.seq (.reg [Jo 21 2 1,Jm 22 5,Ji 23 (.call (Jf 69) [(.t 21),(.t 22)]),Ji 6 (.new (.lst 1 [] .tight) true none),⟨none,.store 1 (.t 6) (.t 23),none⟩]) (.seq (.reg [Ji 24 (.mkFunc 101 [] [(.t 6),(.t 4),(.t 1)]),Ji 7 (.new .nilFunc true none),⟨none,.store 1 (.t 7) (.t 24),none⟩]) (.seq (.reg [Jo 25 2 1,Jm 26 5,Jl 27 7,Ji 28 (.call (Jf 102) [(.t 25),(.t 26),(.t 27)])]) (.seq (.reg [Jo 29 2 1,Jm 30 5,Ji 31 (.call (Jf 103) [(.t 29),(.t 30)]),Jn 32 31,Ji 33 (.mov (Jk 0))]) (.block 2 (.loop a65_0)))))))) (.reg [Ja 55 18,Jm 18 55]))))
def a65:AFunc:=⟨58,[.tmp 2,.tmp 3],(.seq (.reg [Ji 1 (.box 2 (.t 0) false),Ji 2 (.mov (.k (.lst 2 [] .tight))),Ji 3 (.mov (.k (.bool false)))]) (.seq (.seq (.reg [Jo 12 2 1,Ji 13 (.call (Jf 21) [(.t 12)]),Ji 14 (.un .not (.t 13))]) (.cond (.t 14) (.seq (.reg [Ji 2 (.mov (.k (.lst 2 [] .tight))),Ji 3 (.mov (.k (.bool false)))]) .ret) .skip)) (.seq (.reg [Ji 4 (.new (.lst 2 [] .tight) true none)]) (.seq (.seq (.reg [Jd 15 0 1,Jl 16 15,Jn 17 16,Ji 18 (.mov (Jk 0))]) (.block 0 (.loop a65_1))) (.seq (.reg [Jl 56 4,Ji 57 (.call (Jf 17) [(.t 56)]),Jm 2 57,Ji 3 (.mov (.k (.bool true)))]) .ret))))),[((.seq (.reg [Jm 10 48]) (.reg [Jm 11 49])),(.block 5 (.reg [Jl 50 7,Jm 51 10,Jm 52 11,Ji 53 (.call (.t 50) [(.t 51),(.t 52)])])))],false⟩
def a66:AFunc:=⟨27,[.tmp 10],(.seq (.reg [Ji 6 (.box 2 (.t 1) false),Ji 10 (.mov (.k (.lst 2 [] .tight)))]) (.seq (.seq (.reg [Jo 11 2 6,Jm 12 2,Jm 13 3,Ji 14 (.call (Jf 42) [(.t 11),(.t 12),(.t 13)]),Jm 15 4,Ji 16 (.bin .eql (.t 14) (.t 15))]) (.cond (.t 16) (.seq (.reg [Jm 17 0,Jm 10 17]) .ret) .skip)) (.seq (.reg [Jm 18 0,Jd 19 1 6,Jl 20 19,Jm 21 3,Jx 22 9 20 21,Jd 23 8 22,Jl 24 23,Ji 25 (.build [(.int .i64 0),(.int .i64 0)] [(0,1,(Jk 5)),(1,1,(.t 24))]),Ji 26 (.call (Jf 15) [(.t 18),(.t 25)]),Jm 10 26]) .ret))),[],false⟩
end Go.Proofs.YtefildelnccljaaGreat
