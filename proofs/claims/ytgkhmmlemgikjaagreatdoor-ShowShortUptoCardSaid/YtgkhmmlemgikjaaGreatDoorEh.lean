/- Part Eh. No condition. -/
import Derived.Test.YtgkhmmlemgikjaaGreatDoorEf
import Derived.Test.YtgkhmmlemgikjaaGreatDoorEg
import Derived.Shelf.SlicesE.Clone
import Derived.Test.YtgkhmmlemgikjaaGreatDoorEd
set_option linter.unusedVariables false
set_option linter.unusedSimpArgs false
namespace Go.Proofs.YtgkhmmlemgikjaaGreatDoor.Ai
open Go Go.Shelf Go.RowKit Go.Lib Go.Sort
def cloneA (m bytes:Nat):List AV→St→Option (AOut×St)
 | [v],st=>match v.asLst m with
  | .lst m' es _=>if m'=m∧es.length≤great∧bytes≤256 then
    (if es=[] then some (.ret (.lst m [] .no),st) else some (.ret (.sl st.length m 0 es.length none),st++[.cells none (flat es)])) else none
  | _=>none
 | _,_=>none
set_option maxHeartbeats 2000000 in
set_option maxRecDepth 100000 in
theorem clone_zero {P:Program} {ρ:Ren} (L:SlLaysE0.n41 P ρ) (i0:TypeInfo) (z:Value) (size bytes:Nat) (hi:P.info? (ρ.t 23)=some i0) (hz0:i0.zero=some z) (hz1:i0.size=size) (hz2:i0.bytes=bytes) (hzs:z.cells.size=size) (hsz:0<size)
  (z23:∀w,(Go.sizeOf (ρ.t 23)).run P w=.ok size w) (a:Addr) (c:Nat) (w:World) :
  Calls P (ρ.f 41) #[.slice (some a) 0 c] w fun e w'=>∃v',e=.returned v'∧w'.ownsRow w.heap.size (ρ.t 23) size v' 0 []∧Below w.heap.size w w':=by
 have mixed:=L.mixed;have t4:=L.t4;have a4:=L.a4;have z4:=L.z4;have v4:=L.v4;have t22:=L.t22;have a22:=L.a22;have z22:=L.z22;have v22:=L.v22
 have q22:∀(w:World) (a:Option Addr) (n c n' c':Nat),(binOp .eql (ρ.t 22) (.slice a n c) (.slice none n' c')).run P w=.ok (.bool a.isNone) w:=fun w a n c n' c'=>Lib.run_eql_slice_nil w _ _ a n c n' c' L.t22
 have u22:∀w,Sem.run P (underlying (ρ.t 22)) w=.ok (TypeDesc.slice (ρ.t 23)) w:=run_underlying t22
 obtain ⟨_,_,FG⟩:=L.f41
 go_enter FG,SlBodyN.n41_ntmps ρ
 go_wp2_with (at_builtin;refine wpList_append_own _ rfl _ _ (ρ.t 22) rfl w.heap.size (ρ.t 23) i0 z size bytes t22 hi hz0 hz1 hz2 hzs hsz _ _ _ rfl (World.ownsRow_made w #[] 0 (Nat.le_refl _) (Nat.zero_le _) (by simp)) a 0 c [] rfl (by simp) (by intro j u hj;simp at hj) (by intro u hu;cases hu) (by unfold maxLen;omega) (by omega) (by simp) ?_)
 intro v' w1 hown hgrow hnil
 go_wp2
 go_ret
 refine ⟨v',rfl,by simpa using hown,?_⟩
 exact ((Below.refl _ w).alloc (Nat.le_refl _) _).grown hgrow (by simp) (by intro k hk;simp [Value.ownBlock] at hk;omega)
theorem clone_task {P:Program} {gl:List (Nat×AV)} {A:AProg} {B:World→Prop} {ρ:Ren} (L:SlLaysE0.n41 P ρ) (i0:TypeInfo) (z:Value) (size bytes:Nat) (hi:P.info? (ρ.t 23)=some i0) (hz0:i0.zero=some z) (hz1:i0.size=size) (hz2:i0.bytes=bytes) (hzs:z.cells.size=size) (hsz:0<size)
  (z23:∀w,(Go.sizeOf (ρ.t 23)).run P w=.ok size w) (he:∀args w,(callFunc (ρ.f 41) args).run P w=.ok (.enter (ρ.f 41) args) w)
  {args:List AV} {st:St} {o:AOut} {st':St} (hh:cloneA size bytes args st=some (o,st')) :
  TaskOk P gl A B (.call (ρ.f 41) args) st (outRes st' o):=by
 unfold cloneA at hh
 split at hh
 ·rename_i v
  intro base J w cargs hS hG hR
  simp only [Reps] at hR
  obtain ⟨x,xs,e1,hx,rfl⟩:=hR
  obtain rfl:cargs=#[x]:=by apply Array.toList_inj.1;simpa using e1
  have hx:=hx.asLst (m:=size)
  refine .inl ⟨he _ _,callsIn_wide.2 ?_⟩
  cases hv:v.asLst size<;>simp only [hv] at hh<;>try (cases hh;done)
  rename_i m' es ap
  rw [hv] at hx
  split at hh
  ·rename_i hc
   obtain ⟨rfl,hgr,hby⟩:=hc
   simp only [Rep] at hx
   split at hh
   ·rename_i hes
    subst hes
    simp only [Option.some.injEq,Prod.mk.injEq] at hh
    obtain ⟨rfl,rfl⟩:=hh
    rcases hx.2 with ⟨rfl,_⟩ | ⟨a,cap,rfl,_⟩
    ·refine (AnyE.slices_Clone_nil L 0 0 w).mono fun e w' ⟨h1,h2⟩=>?_
     subst h2
     exact ⟨J,Inj.le.refl J,hS,.lst m' [] .no,.slice none 0 0,rfl,by simp [Rep],h1⟩
    ·refine (clone_zero L i0 z m' bytes hi hz0 hz1 hz2 hzs hsz z23 a cap w).mono fun e w' ⟨v',h1,h2,h3⟩=>?_
     refine ⟨J,Inj.le.refl J,hS.keep (Kept.of_below h3),.lst m' [] .no,v',rfl,?_,h1⟩
     rcases h2.2 with ⟨rfl,_⟩ | ⟨g,c2,cur,rfl,_⟩
     ·simp [Rep]
     ·simp only [Rep]
      exact ⟨fun _ e=>(by cases e),.inr ⟨_,c2,rfl,fun _=>rfl,Nat.zero_le _,fun e=>(by cases e),by simp [Elems]⟩⟩
   ·rename_i hes
    simp only [Option.some.injEq,Prod.mk.injEq] at hh
    obtain ⟨rfl,rfl⟩:=hh
    have hpos:0<es.length:=List.length_pos_iff.2 hes
    rcases hx.2 with ⟨_,h⟩ | ⟨a,cap,rfl,hsp,hle,_,hel⟩
    ·exact absurd h hes
    ·obtain ⟨blk,off,sp⟩:=a
     obtain rfl:sp=none:=hsp (by omega)
     obtain ⟨xs,hck,hrow⟩:=hel.chunks
     have hmul:es.length * bytes≤great * 256:=Nat.mul_le_mul hgr hby
     have hg:great * 256≤140737488355328:=by decide
     refine (AnyE.slices_Clone L i0 z m' bytes hi hz0 hz1 hz2 hzs hsz z23 blk off es.length cap xs w hck.length (Nat.le_trans hgr (by decide)) (Nat.le_trans hmul hg) (fun j u hj=>hS.imOk _ _ _ (hrow j u hj)) (hck.reps.oneCells hck.isCell)).mono fun e w' ⟨v',h1,h2,_,h3⟩=>?_
     rcases h2.2 with ⟨_,h⟩ | ⟨g,c2,cur,rfl,hbg,hgh,hnc,_,hcs,htk⟩
     ·omega
     ·have hS1:=hS.keep (Kept.of_below h3)
      have hlt:g<w'.heap.size:=(Array.getElem?_eq_some_iff.1 hgh).1
      have hfl:(flat es).length=xs.length:=hck.reps.length
      have hxl:=hck.length
      have hmc:es.length * m'≤c2 * m':=Nat.mul_le_mul_right _ hnc
      have hadd:=hS1.adopt (b:=g) (n:=cur.size) (w':=w') (a:=.cells none (flat es)) rfl (by simp) (Nat.le_trans hS.size hbg) (fun hh=>by have:=(hS.hid _ hh).1;omega) hlt
       (fun r o h1 h2=>by have:=(hS.own r o g h1 h2).2.1;omega) (fun k v hv=>by have:=lt_of_cell (hS.imOk g k v hv);omega) rfl rfl rfl (fun _ _=>rfl)
       ⟨g,cur,ρ.t 23,by simp [Inj.bind],⟨(0,0),hgh,Clear.zero _⟩,by omega,by
        rw [hfl,hxl,htk];exact Reps.mono (hS1.bind_le _ _) _ _ hck.reps,hck.isCell,(fun _ hT=>by cases hT),cur.size,by simp [Inj.bind],by omega,Nat.le_refl _⟩
      refine ⟨_,hS1.bind_le _ _,hadd,.sl st.length m' 0 es.length none,_,rfl,?_,h1⟩
      simp only [Rep]
      exact ⟨g,c2,by simp [Inj.bind],rfl,hnc,(fun k e=>by cases e),cur.size,by simp [Inj.bind],by rw [hcs];exact Nat.le_of_eq (Nat.zero_add _)⟩
  ·cases hh
 ·cases hh
end Go.Proofs.YtgkhmmlemgikjaaGreatDoor.Ai
namespace Go.Proofs.YtgkhmmlemgikjaaGreatDoor.Ai
open Go
section
variable {A:AProg}
end
end Go.Proofs.YtgkhmmlemgikjaaGreatDoor.Ai
namespace Go.Proofs.YtgkhmmlemgikjaaGreatDoor.Ai
open Go
section
variable {A:AProg} {fn:FuncId} {rnd:Option Nat} {e:Env} {ds:List ADef} {st:St} {Q:PostQ}
theorem conda_split {a b:ACode} {t:Bool} (h1:t=true→AW A fn rnd a e ds st Q) (h2:t=false→AW A fn rnd b e ds st Q):CondA A fn rnd a b e ds st Q (.bool t):=by
 cases t
 ·exact conda_false.2 (h2 rfl)
 ·exact conda_true.2 (h1 rfl)
theorem grda_split {d:Option Nat} {op:AOp} {os:List AOper} {b:Bool} (h1:b=true→NxA A d os e ds st Q (opA op e st)) (h2:b=false→AWo A os (setDst d e .undef) ds st Q):GrdA A d op os e ds st Q (some b):=by
 cases b
 ·exact grda_false.2 (h2 rfl)
 ·exact grda_true.2 (h1 rfl)
theorem conda_splitn {a b:ACode} {t:Bool} (h1:t=false→AW A fn rnd a e ds st Q) (h2:t=true→AW A fn rnd b e ds st Q):CondA A fn rnd a b e ds st Q (.bool (!t)):=by
 cases t
 ·exact conda_true.2 (h1 rfl)
 ·exact conda_false.2 (h2 rfl)
theorem grda_splitn {d:Option Nat} {op:AOp} {os:List AOper} {b:Bool} (h1:b=false→NxA A d os e ds st Q (opA op e st)) (h2:b=true→AWo A os (setDst d e .undef) ds st Q):GrdA A d op os e ds st Q (some (!b)):=by
 cases b
 ·exact grda_true.2 (h1 rfl)
 ·exact grda_false.2 (h2 rfl)
end
end Go.Proofs.YtgkhmmlemgikjaaGreatDoor.Ai
namespace Go.Proofs.YtgkhmmlemgikjaaGreatDoor.Ai
open Go
section
variable {A:AProg} {fn:FuncId} {rnd:Option Nat} {e:Env} {ds:List ADef} {st:St} {Q:PostQ}
theorem awo_same {os:List AOper} (h:AWo A os e ds st Q):AWo A os e ds st (fun x e' ds st=>Same (opWrites os) e e'∧Q x e' ds st):=by
 obtain ⟨x,e',ds',st',hx,hq⟩:=h
 exact ⟨x,e',ds',st',hx,doOps_same (opWrites os) os _ _ _ _ _ hx (fun d hd=>by simpa using hd),hq⟩
theorem awo_mono {os:List AOper} {Q':PostQ} (h:AWo A os e ds st Q) (hq:∀x e ds st,Q x e ds st→Q' x e ds st):AWo A os e ds st Q':=by
 obtain ⟨x,e',ds',st',h1,h2⟩:=h
 exact ⟨x,e',ds',st',h1,hq _ _ _ _ h2⟩
theorem aws_same {all ss:List AStep} (h:AWs A all ss e ds st Q):AWs A all ss e ds st (fun x e' ds st=>Same (stepWrites ss) e e'∧Q x e' ds st):=by
 obtain ⟨x,e',ds',st',hx,hq⟩:=h
 exact ⟨x,e',ds',st',hx,doSteps_same (stepWrites ss) all ss _ _ _ _ _ hx (fun d hd=>by simpa using hd),hq⟩
theorem aws_mono {all ss:List AStep} {Q':PostQ} (h:AWs A all ss e ds st Q) (hq:∀x e ds st,Q x e ds st→Q' x e ds st):AWs A all ss e ds st Q':=by
 obtain ⟨x,e',ds',st',h1,h2⟩:=h
 exact ⟨x,e',ds',st',h1,hq _ _ _ _ h2⟩
theorem grda_join {d:Option Nat} {op:AOp} {os:List AOper} {b:Bool} (R:Env→Prop)
  (h:GrdA A d op os e ds st (fun x e2 ds2 st2=>x=.nrm∧ds2=ds∧st2=st∧R e2) (some b))
  (g:∀e2,Same (opWrites (⟨d,op,none⟩::os)) e e2→R e2→Q .nrm e2 ds st):GrdA A d op os e ds st Q (some b):=by
 have key:∀(Q:PostQ),GrdA A d op os e ds st Q (some b)↔AWo A (⟨d,if b then op else .mov (.k .undef),none⟩::os) e ds st Q:=by
  intro Q
  rw [ao_consA]
  cases b with
  | true=>rfl
  | false=>simp only [wantedA,grda_true,opA_mov,nxa_val,grda_false];rfl
 rw [key] at h ⊢
 have hw:opWrites (⟨d,if b then op else .mov (.k .undef),none⟩::os)=opWrites (⟨d,op,none⟩::os):=by simp [opWrites]
 refine awo_mono (awo_same h) ?_
 rintro x e2 ds2 st2 ⟨hs,rfl,rfl,rfl,hr⟩
 exact g e2 (hw▸hs) hr
theorem grdp_join {d:Option Nat} {op:AOp} {b:Bool} {all:List AStep} {re:List Nat} {ss:List AStep} (R:Env→Prop)
  (h:GrdA A d op [] e ds st (StepQ A all re ss (fun x e2 ds2 st2=>x=.nrm∧ds2=ds∧st2=st∧R e2)) (some b))
  (g:∀e2,Same (opWrites [⟨d,op,none⟩]++stepWrites ss) e e2→R e2→Q .nrm e2 ds st):GrdA A d op [] e ds st (StepQ A all re ss Q) (some b):=by
 have key:∀(Q:PostQ),GrdA A d op [] e ds st Q (some b)↔AWo A [⟨d,if b then op else .mov (.k .undef),none⟩] e ds st Q:=by
  intro Q
  rw [ao_consA]
  cases b with
  | true=>rfl
  | false=>simp only [wantedA,grda_true,opA_mov,nxa_val,grda_false];rfl
 rw [key] at h ⊢
 have hw:opWrites [⟨d,if b then op else .mov (.k .undef),none⟩]=opWrites [⟨d,op,none⟩]:=by simp [opWrites]
 refine awo_mono (awo_same h) ?_
 rintro x e1 ds1 st1 ⟨hs,hq⟩
 rw [hw] at hs
 have sub1:∀s,(opWrites [⟨d,op,none⟩]++stepWrites ss).contains s=false→(opWrites [⟨d,op,none⟩]).contains s=false:=by
  intro s;simp only [List.contains_eq_mem,decide_eq_false_iff_not,List.mem_append,not_or];exact fun h=>h.1
 have sub2:∀s,(opWrites [⟨d,op,none⟩]++stepWrites ss).contains s=false→(stepWrites ss).contains s=false:=by
  intro s;simp only [List.contains_eq_mem,decide_eq_false_iff_not,List.mem_append,not_or];exact fun h=>h.2
 cases x with
 | nrm =>
  simp only [stq_nrm] at hq ⊢
  cases hre:reAll all re ⟨e1,ds1⟩ st1 with
  | false=>rw [hre] at hq;exact hq.elim
  | true =>
   rw [hre] at hq
   rw [rea_true] at hq ⊢
   refine aws_mono (aws_same hq) ?_
   rintro x e2 ds2 st2 ⟨hs2,rfl,rfl,rfl,hr⟩
   exact g e2 ((hs.sub sub1).trans (hs2.sub sub2)) hr
 | _=>obtain ⟨h,_⟩:=hq;cases h
end
end Go.Proofs.YtgkhmmlemgikjaaGreatDoor.Ai
namespace Go.Proofs.YtgkhmmlemgikjaaGreatDoor.Ai
open Go
theorem last_obj {s:St} {o:AObj}:(s++[o])[s.length]?=some o:=by simp
end Go.Proofs.YtgkhmmlemgikjaaGreatDoor.Ai
namespace Go.Proofs.YtgkhmmlemgikjaaGreatDoor.Ai
open Go
section
variable {κ α:Type} [DecidableEq κ]
end
end Go.Proofs.YtgkhmmlemgikjaaGreatDoor.Ai
namespace Go.Proofs.YtgkhmmlemgikjaaGreatDoor.Ai
open Go
end Go.Proofs.YtgkhmmlemgikjaaGreatDoor.Ai
namespace Go.Proofs.YtgkhmmlemgikjaaGreatDoor.Ai
open Go
section
variable {A:AProg} {st:St} {f:FuncId} {F:AFunc} {args:List AV} {N:Nat}
noncomputable def tailA (A:AProg) (F:AFunc) (n:Nat) (x:AEx) (e:Env) (ds:List ADef) (st':St):Option Res :=
 match runDefs ds st' with
 | none=>leaveD A (runL A) F n x ⟨e,ds⟩ st'
 | some st''=>match x with
  | .pan v=>some ⟨.pan v,⟨[],[]⟩,st''⟩
  | .exit _=>none
  | _=>match resultsA st'' e F.results with
   | none=>none
   | some vs =>
    if F.keep then some ⟨.ret,⟨[oneOf vs],[]⟩,st''⟩ else
    match settle n (oneOf vs) st'' with
    | some (v,st3)=>some ⟨.ret,⟨[v],[]⟩,st3⟩
    | none=>none
theorem env_ev {args:List AV} {n:Nat} (i:Nat):AX.ev (args++List.replicate (n-args.length) .undef) (.t i)=args.getD i .undef:=by
 simp only [AX.ev,List.getD_eq_getElem?_getD]
 by_cases hi:i<args.length
 ·rw [List.getElem?_append_left hi]
 ·rw [List.getElem?_append_right (by omega),List.getElem?_eq_none (by omega:args.length≤i),List.getElem?_replicate]
  split<;>rfl
theorem task_tail (G:Res→Prop) (hp:A.prim f=none) (hf:A.fn f=some F) (hN:args.length+(F.ntmps-args.length)=N)
  (h:∀e:Env,e.length=N→(∀i,AX.ev e (.t i)=args.getD i .undef)→∀K:PostQ,
   (∀x e ds st' r,tailA A F st.length x e ds st'=some r→G r→K x e ds st')→AW A f none F.body e [] st K) :
  ∃r,G r∧runL A (.call f args) st=some r∧runL A (.seqc f args) st=some r:=by
 obtain ⟨x,e',ds',st',hx,r,h1,h2⟩:=h (args++List.replicate (F.ntmps-args.length) .undef) (by simpa using hN) env_ev
  (fun x e ds st'=>∃r,tailA A F st.length x e ds st'=some r∧G r) (fun x e ds st' r h1 h2=>⟨r,h1,h2⟩)
 refine ⟨r,h2,?_⟩
 unfold tailA at h1
 constructor<;>rw [runL_eq]<;>simp only [layer,hp,callFn,hf,hx]<;>exact h1
def startsRec:ACode→Bool
 | .seq (.reg [⟨some _,.recover,none⟩,⟨some _,.mov (.t _),none⟩]) _=>true
 | _=>false
end
end Go.Proofs.YtgkhmmlemgikjaaGreatDoor.Ai
