/- Part Ec. No condition. -/
import Derived.Test.YtgkhmmlemgikjaaGreatDoorEg
import Derived.Deep.DeepHandedRow
import Derived.Deep.DeepLaidRun
import Derived.OpenShut
import Derived.LaidSub
set_option linter.unusedVariables false
set_option linter.unusedSimpArgs false
namespace Go.Proofs.YtgkhmmlemgikjaaGreatDoor.Ai
open Go
abbrev Ev:=Task→St→Option Res
def Le (g g':Ev):Prop:=∀t st r,g t st=some r→g' t st=some r
theorem Le.refl (g:Ev):Le g g:=fun _ _ _ h=>h
theorem Le.trans {a b c:Ev} (h:Le a b) (h':Le b c):Le a c:=fun t st r e=>h' t st r (h t st r e)
theorem doOp_le {g g':Ev} (h:Le g g') {o:AOper} {fr:Fr} {st:St} {r:Res} (e:doOp g o fr st=some r):doOp g' o fr st=some r:=by
 unfold doOp at e ⊢
 cases hw:wantedA o.guard fr.env with
 | none=>simp [hw] at e
 | some b =>
  cases b with
  | false=>simpa [hw] using e
  | true =>
   simp only [hw] at e ⊢
   cases ho:opA o.op fr.env st with
   | none=>simp [ho] at e
   | some nx =>
    cases nx with
    | val v st'=>simpa [ho] using e
    | pan v=>simpa [ho] using e
    | defer d=>simpa [ho] using e
    | call f args =>
     simp only [ho] at e ⊢
     cases hg:g (.call f args) st with
     | none=>simp [hg] at e
     | some q=>rw [hg] at e;rw [h _ _ _ hg];exact e
    | round f args =>
     simp only [ho] at e ⊢
     cases hg:g (.round f args) st with
     | none=>simp [hg] at e
     | some q=>rw [hg] at e;rw [h _ _ _ hg];exact e
theorem doOps_le {g g':Ev} (h:Le g g'):∀(os:List AOper) (fr:Fr) (st:St) (r:Res),doOps g os fr st=some r→doOps g' os fr st=some r
 | [],fr,st,r,e=>e
 | o::os,fr,st,r,e=>by
  simp only [doOps] at e ⊢
  cases hd:doOp g o fr st with
  | none=>simp [hd] at e
  | some q =>
   rw [hd] at e;rw [doOp_le h hd]
   obtain ⟨x,fr',st'⟩:=q
   cases x<;>first | exact doOps_le h os _ _ _ e | exact e
theorem doSteps_le {g g':Ev} (h:Le g g') (all:List AStep):∀(ss:List AStep) (fr:Fr) (st:St) (r:Res),doSteps g all ss fr st=some r→doSteps g' all ss fr st=some r
 | [],fr,st,r,e=>e
 | s::ss,fr,st,r,e=>by
  simp only [doSteps] at e ⊢
  cases hd:doOp g s.o fr st with
  | none=>simp [hd] at e
  | some q =>
   rw [hd] at e;rw [doOp_le h hd]
   obtain ⟨x,fr',st'⟩:=q
   cases x with
   | nrm =>
    simp only at e ⊢
    split at e
    ·rename_i hr;rw [if_pos hr];exact doSteps_le h all ss _ _ _ e
    ·cases e
   | _=>exact e
theorem exec_le {g g':Ev} (h:Le g g') {fn:FuncId} {rnd:Option Nat}:∀(c:ACode) (fr:Fr) (st:St) (r:Res),exec g fn rnd c fr st=some r→exec g' fn rnd c fr st=some r
 | .skip,fr,st,r,e=>e
 | .reg ops,fr,st,r,e=>doOps_le h ops fr st r e
 | .plan ss,fr,st,r,e=>doSteps_le h ss ss fr st r e
 | .seq a b,fr,st,r,e=>by
  simp only [exec] at e ⊢
  cases hd:exec g fn rnd a fr st with
  | none=>simp [hd] at e
  | some q =>
   rw [hd] at e;rw [exec_le h a _ _ _ hd]
   obtain ⟨x,fr',st'⟩:=q
   cases x<;>first | exact exec_le h b _ _ _ e | exact e
 | .cond c a b,fr,st,r,e=>by
  simp only [exec] at e ⊢
  cases hc:c.ev fr.env<;>simp only [hc] at e ⊢<;>try (cases e;done)
  split at e
  ·rename_i ht;rw [if_pos ht];exact exec_le h a _ _ _ e
  ·rename_i ht;rw [if_neg ht];exact exec_le h b _ _ _ e
 | .block id a,fr,st,r,e=>by
  simp only [exec] at e ⊢
  cases hd:exec g fn rnd a fr st with
  | none=>simp [hd] at e
  | some q=>rw [hd] at e;rw [exec_le h a _ _ _ hd];exact e
 | .loop a,fr,st,r,e=>h _ _ _ e
 | .exit id,fr,st,r,e=>e
 | .ret,fr,st,r,e=>e
 | .rangeFunc f ps site,fr,st,r,e=>by
  simp only [exec] at e ⊢
  cases hf:f.ev fr.env with
  | func fnn first cap =>
   simp only [hf] at e ⊢
   cases fnn with
   | func hh =>
    simp only at e ⊢
    cases hs:rangeStart rnd st with
    | none=>simp [hs] at e
    | some q =>
     obtain ⟨d,mark,st1⟩:=q
     simp only [hs] at e ⊢
     revert e
     generalize hT:g _ _=res
     intro e
     cases res with
     | none=>simp [rangeEnd] at e
     | some q=>rw [h _ _ _ hT];exact e
   | _=>simp at e
  | _=>simp [hf] at e
theorem callDef_le {A:AProg} {g g':Ev} (h:Le g g') {f:FuncId} {args:List AV} {u:Option AV} {st:St} {q:Option AV×St} (e:callDef A g f args u st=some q):callDef A g' f args u st=some q:=by
 unfold callDef at e ⊢
 cases hF:A.fn f with
 | none=>simp [hF] at e
 | some F =>
  simp only [hF] at e ⊢
  have key:∀(o:Option Res) (v:Option AV),defBody g f F args u st=(o,v)→o.isSome=true→defBody g' f F args u st=(o,v):=by
   intro o v hb ho
   unfold defBody at hb ⊢
   split at hb
   ·rename_i d d' d'' c hc
    split at hb
    ·rename_i hd
     simp only [Prod.mk.injEq] at hb
     obtain ⟨hb,rfl⟩:=hb
     cases o with
     | none=>cases ho
     | some q=>rw [if_pos hd,exec_le h _ _ _ _ hb]
    ·simp only [Prod.mk.injEq] at hb
     obtain ⟨rfl,_⟩:=hb
     cases ho
   ·rename_i c hc
    simp only [Prod.mk.injEq] at hb
    obtain ⟨hb,rfl⟩:=hb
    cases o with
    | none=>cases ho
    | some q=>simp only [exec_le h _ _ _ _ hb]
  split at e
  ·rename_i x ee st' u' hb
   rw [key _ _ hb rfl];exact e
  ·cases e
theorem runCalls_le {A:AProg} {g g':Ev} (h:Le g g'):∀(ds:List ADef) (u:Option AV) (st:St) (q:Option AV×St),runCalls A g ds u st=some q→runCalls A g' ds u st=some q
 | [],u,st,q,e=>e
 | .collected _::_,u,st,q,e=>by cases e
 | .call f args::ds,u,st,q,e=>by
  simp only [runCalls] at e ⊢
  cases hc:callDef A g f args u st with
  | none=>simp [hc] at e
  | some q1 =>
   rw [callDef_le h hc]
   simp only [hc] at e ⊢
   exact runCalls_le h ds _ _ _ e
theorem leaveD_le {A:AProg} {g g':Ev} (h:Le g g') {F:AFunc} {n:Nat} {x:AEx} {fr:Fr} {st:St} {r:Res} (e:leaveD A g F n x fr st=some r):leaveD A g' F n x fr st=some r:=by
 unfold leaveD at e ⊢
 cases hm:modeOf x with
 | none=>simp [hm] at e
 | some u =>
  simp only [hm] at e ⊢
  cases hc:runCalls A g fr.defs u st with
  | none=>simp [hc] at e
  | some q=>rw [runCalls_le h _ _ _ _ hc];simpa [hc] using e
theorem callFn_le {A:AProg} {g g':Ev} (h:Le g g') {f:FuncId} {args:List AV} {st:St} {r:Res} (e:callFn A g f args st=some r):callFn A g' f args st=some r:=by
 unfold callFn at e ⊢
 cases hF:A.fn f with
 | none=>simp [hF] at e
 | some F =>
  simp only [hF] at e ⊢
  revert e
  generalize hx:exec g f none F.body _ st=res
  intro e
  cases res with
  | none=>simp at e
  | some q =>
   rw [exec_le h _ _ _ _ hx]
   obtain ⟨x,fr,st'⟩:=q
   simp only at e ⊢
   cases hrd:runDefs fr.defs st' with
   | some st2=>simp only [hrd] at e ⊢;exact e
   | none=>simp only [hrd] at e ⊢;exact leaveD_le h e
theorem roundEnd_none {r:Nat}:roundEnd r none=none:=rfl
theorem roundFn_le {A:AProg} {g g':Ev} (h:Le g g') {q:Nat} {args:List AV} {st:St} {r:Res} (e:roundFn A g q args st=some r):roundFn A g' q args st=some r:=by
 unfold roundFn at e ⊢
 split at e
 ·rename_i f site ps env d hst
  cases hF:A.fn f with
  | none=>simp [hF] at e
  | some F =>
   simp only [hF] at e ⊢
   cases hs:F.sites[site]? with
   | none=>simp [hs] at e
   | some ab =>
    obtain ⟨asg,body⟩:=ab
    simp only [hs] at e ⊢
    split at e
    ·rename_i hl
     rw [if_pos hl]
     revert e
     generalize hx:exec g f (some q) asg _ st=res
     intro e
     cases res with
     | none=>simp at e
     | some z =>
      rw [exec_le h _ _ _ _ hx]
      obtain ⟨x,fr,st1⟩:=z
      cases x with
      | nrm =>
       simp only at e ⊢
       split at e
       ·rename_i p1 f1 s1 ps1 e1 d1 h1
        revert e
        generalize hy:exec g f (some q) body fr _=res2
        intro e
        cases res2 with
        | none=>rw [roundEnd_none] at e;cases e
        | some z2=>rw [exec_le h _ _ _ _ hy];exact e
       ·cases e
      | _=>simp at e
    ·cases e
 ·cases e
theorem layer_le {A:AProg} {g g':Ev} (h:Le g g'):Le (layer A g) (layer A g'):=by
 intro t st r e
 cases t with
 | call f args =>
  simp only [layer] at e ⊢
  cases hp:A.prim f with
  | some hh=>simpa [hp] using e
  | none=>simp only [hp] at e ⊢;exact callFn_le h e
 | seqc f args =>
  simp only [layer] at e ⊢
  cases hp:A.prim f with
  | some hh=>simp [hp] at e
  | none=>simp only [hp] at e ⊢;exact callFn_le h e
 | round q args=>exact roundFn_le h e
 | loop f rnd body fr =>
  simp only [layer] at e ⊢
  cases hx:exec g f rnd body fr st with
  | none=>simp [hx] at e
  | some q =>
   rw [hx] at e;rw [exec_le h _ _ _ _ hx]
   obtain ⟨x,fr',st'⟩:=q
   cases x<;>first | exact h _ _ _ e | exact e
theorem runA_le (A:AProg):∀n,Le (runA A n) (runA A (n+1))
 | 0=>fun _ _ _ e=>by cases e
 | n+1=>layer_le (runA_le A n)
theorem runA_mono (A:AProg) {n m:Nat} (h:n≤m):Le (runA A n) (runA A m):=by
 induction h with
 | refl=>exact Le.refl _
 | step _ ih=>exact ih.trans (runA_le A _)
end Go.Proofs.YtgkhmmlemgikjaaGreatDoor.Ai
namespace Go.Proofs.YtgkhmmlemgikjaaGreatDoor.Ai
open Go
open Classical in
noncomputable def runL (A:AProg):Ev:=fun t st=>if h:∃r n,runA A n t st=some r then some h.choose else none
theorem runL_some {A:AProg} {t:Task} {st:St} {r:Res}:runL A t st=some r↔∃n,runA A n t st=some r:=by
 unfold runL
 constructor
 ·intro h
  split at h
  ·rename_i hh
   cases h
   exact hh.choose_spec
  ·cases h
 ·rintro ⟨n,hn⟩
  have hh:∃r n,runA A n t st=some r:=⟨r,n,hn⟩
  rw [dif_pos hh]
  obtain ⟨m,hm⟩:=hh.choose_spec
  have h1:=runA_mono A (Nat.le_max_left n m) t st r hn
  have h2:=runA_mono A (Nat.le_max_right n m) t st _ hm
  rw [h1] at h2
  exact h2.symm
theorem runA_runL (A:AProg) (n:Nat):Le (runA A n) (runL A):=fun _ _ _ h=>runL_some.2 ⟨n,h⟩
section
variable {A:AProg}
theorem doOp_cpt {o:AOper} {fr:Fr} {st:St} {r:Res} (e:doOp (runL A) o fr st=some r):∃n,doOp (runA A n) o fr st=some r:=by
 unfold doOp at e ⊢
 cases hw:wantedA o.guard fr.env with
 | none=>simp [hw] at e
 | some b =>
  cases b with
  | false=>exact ⟨0,by simpa [hw] using e⟩
  | true =>
   simp only [hw] at e ⊢
   cases ho:opA o.op fr.env st with
   | none=>simp [ho] at e
   | some nx =>
    cases nx with
    | val v st'=>exact ⟨0,by simpa [ho] using e⟩
    | pan v=>exact ⟨0,by simpa [ho] using e⟩
    | defer d=>exact ⟨0,by simpa [ho] using e⟩
    | call f args =>
     simp only [ho] at e ⊢
     cases hg:runL A (.call f args) st with
     | none=>simp [hg] at e
     | some q=>obtain ⟨n,hn⟩:=runL_some.1 hg;rw [hg] at e;exact ⟨n,by rw [hn];exact e⟩
    | round f args =>
     simp only [ho] at e ⊢
     cases hg:runL A (.round f args) st with
     | none=>simp [hg] at e
     | some q=>obtain ⟨n,hn⟩:=runL_some.1 hg;rw [hg] at e;exact ⟨n,by rw [hn];exact e⟩
theorem doOps_cpt:∀(os:List AOper) (fr:Fr) (st:St) (r:Res),doOps (runL A) os fr st=some r→∃n,doOps (runA A n) os fr st=some r
 | [],fr,st,r,e=>⟨0,e⟩
 | o::os,fr,st,r,e=>by
  simp only [doOps] at e ⊢
  cases hd:doOp (runL A) o fr st with
  | none=>simp [hd] at e
  | some q =>
   obtain ⟨n1,h1⟩:=doOp_cpt hd
   rw [hd] at e
   obtain ⟨x,fr',st'⟩:=q
   cases x with
   | nrm =>
    obtain ⟨n2,h2⟩:=doOps_cpt os _ _ _ e
    exact ⟨max n1 n2,by rw [doOp_le (runA_mono A (Nat.le_max_left n1 n2)) h1];exact doOps_le (runA_mono A (Nat.le_max_right n1 n2)) _ _ _ _ h2⟩
   | _=>exact ⟨n1,by rw [h1];exact e⟩
theorem doSteps_cpt (all:List AStep):∀(ss:List AStep) (fr:Fr) (st:St) (r:Res),doSteps (runL A) all ss fr st=some r→∃n,doSteps (runA A n) all ss fr st=some r
 | [],fr,st,r,e=>⟨0,e⟩
 | s::ss,fr,st,r,e=>by
  simp only [doSteps] at e ⊢
  cases hd:doOp (runL A) s.o fr st with
  | none=>simp [hd] at e
  | some q =>
   obtain ⟨n1,h1⟩:=doOp_cpt hd
   rw [hd] at e
   obtain ⟨x,fr',st'⟩:=q
   cases x with
   | nrm =>
    simp only at e
    split at e
    ·rename_i hr
     obtain ⟨n2,h2⟩:=doSteps_cpt all ss _ _ _ e
     refine ⟨max n1 n2,?_⟩
     rw [doOp_le (runA_mono A (Nat.le_max_left n1 n2)) h1]
     simp only
     rw [if_pos hr]
     exact doSteps_le (runA_mono A (Nat.le_max_right n1 n2)) _ _ _ _ _ h2
    ·cases e
   | _=>exact ⟨n1,by rw [h1];exact e⟩
theorem exec_cpt {fn:FuncId} {rnd:Option Nat}:∀(c:ACode) (fr:Fr) (st:St) (r:Res),exec (runL A) fn rnd c fr st=some r→∃n,exec (runA A n) fn rnd c fr st=some r
 | .skip,fr,st,r,e=>⟨0,e⟩
 | .reg ops,fr,st,r,e=>doOps_cpt ops fr st r e
 | .plan ss,fr,st,r,e=>doSteps_cpt ss ss fr st r e
 | .seq a b,fr,st,r,e=>by
  simp only [exec] at e ⊢
  cases hd:exec (runL A) fn rnd a fr st with
  | none=>simp [hd] at e
  | some q =>
   obtain ⟨n1,h1⟩:=exec_cpt a _ _ _ hd
   rw [hd] at e
   obtain ⟨x,fr',st'⟩:=q
   cases x with
   | nrm =>
    obtain ⟨n2,h2⟩:=exec_cpt b _ _ _ e
    exact ⟨max n1 n2,by rw [exec_le (runA_mono A (Nat.le_max_left n1 n2)) _ _ _ _ h1];exact exec_le (runA_mono A (Nat.le_max_right n1 n2)) _ _ _ _ h2⟩
   | _=>exact ⟨n1,by rw [h1];exact e⟩
 | .cond c a b,fr,st,r,e=>by
  simp only [exec] at e ⊢
  cases hc:c.ev fr.env<;>simp only [hc] at e ⊢<;>try (cases e;done)
  split at e
  ·rename_i ht;obtain ⟨n,h⟩:=exec_cpt a _ _ _ e;exact ⟨n,by rw [if_pos ht];exact h⟩
  ·rename_i ht;obtain ⟨n,h⟩:=exec_cpt b _ _ _ e;exact ⟨n,by rw [if_neg ht];exact h⟩
 | .block id a,fr,st,r,e=>by
  simp only [exec] at e ⊢
  cases hd:exec (runL A) fn rnd a fr st with
  | none=>simp [hd] at e
  | some q=>obtain ⟨n,h⟩:=exec_cpt a _ _ _ hd;rw [hd] at e;exact ⟨n,by rw [h];exact e⟩
 | .loop a,fr,st,r,e=>runL_some.1 e
 | .exit id,fr,st,r,e=>⟨0,e⟩
 | .ret,fr,st,r,e=>⟨0,e⟩
 | .rangeFunc f ps site,fr,st,r,e=>by
  simp only [exec] at e ⊢
  cases hf:f.ev fr.env with
  | func fnn first cap =>
   simp only [hf] at e ⊢
   cases fnn with
   | func hh =>
    simp only at e ⊢
    cases hs:rangeStart rnd st with
    | none=>simp [hs] at e
    | some q =>
     obtain ⟨d,mark,st1⟩:=q
     simp only [hs] at e ⊢
     cases hT:runL A (.seqc hh (first++[.func (.yield st1.length) [] []]++cap)) (st1++[.loop .ready none fn site ps fr.env d]) with
     | none=>rw [hT] at e;simp [rangeEnd] at e
     | some q=>obtain ⟨n,hn⟩:=runL_some.1 hT;rw [hT] at e;exact ⟨n,by rw [hn];exact e⟩
   | _=>simp at e
  | _=>simp [hf] at e
theorem callDef_cpt {f:FuncId} {args:List AV} {u:Option AV} {st:St} {q:Option AV×St} (e:callDef A (runL A) f args u st=some q):∃n,callDef A (runA A n) f args u st=some q:=by
 unfold callDef at e ⊢
 cases hF:A.fn f with
 | none=>simp [hF] at e
 | some F =>
  simp only [hF] at e ⊢
  have key:∀(o:Option Res) (v:Option AV),defBody (runL A) f F args u st=(o,v)→o.isSome=true→∃n,defBody (runA A n) f F args u st=(o,v):=by
   intro o v hb ho
   unfold defBody at hb ⊢
   split at hb
   ·rename_i d d' d'' c hc
    split at hb
    ·rename_i hd
     simp only [Prod.mk.injEq] at hb
     obtain ⟨hb,rfl⟩:=hb
     cases o with
     | none=>cases ho
     | some q=>obtain ⟨n,hn⟩:=exec_cpt _ _ _ _ hb;exact ⟨n,by first | rw [if_pos hd,hn] | (rw [hc];simp only;rw [if_pos hd,hn])⟩
    ·simp only [Prod.mk.injEq] at hb
     obtain ⟨rfl,_⟩:=hb
     cases ho
   ·rename_i c hc
    simp only [Prod.mk.injEq] at hb
    obtain ⟨hb,rfl⟩:=hb
    cases o with
    | none=>cases ho
    | some q=>obtain ⟨n,hn⟩:=exec_cpt _ _ _ _ hb;exact ⟨n,by simp only [hn]⟩
  split at e
  ·rename_i x ee st' u' hb
   obtain ⟨n,hn⟩:=key _ _ hb rfl
   exact ⟨n,by rw [hn];exact e⟩
  ·cases e
theorem runCalls_cpt:∀(ds:List ADef) (u:Option AV) (st:St) (q:Option AV×St),runCalls A (runL A) ds u st=some q→∃n,runCalls A (runA A n) ds u st=some q
 | [],u,st,q,e=>⟨0,e⟩
 | .collected _::_,u,st,q,e=>by cases e
 | .call f args::ds,u,st,q,e=>by
  simp only [runCalls] at e ⊢
  cases hc:callDef A (runL A) f args u st with
  | none=>simp [hc] at e
  | some q1 =>
   obtain ⟨n1,h1⟩:=callDef_cpt hc
   simp only [hc] at e
   obtain ⟨n2,h2⟩:=runCalls_cpt ds _ _ _ e
   exact ⟨max n1 n2,by rw [callDef_le (runA_mono A (Nat.le_max_left n1 n2)) h1];exact runCalls_le (runA_mono A (Nat.le_max_right n1 n2)) _ _ _ _ h2⟩
theorem leaveD_cpt {F:AFunc} {n:Nat} {x:AEx} {fr:Fr} {st:St} {r:Res} (e:leaveD A (runL A) F n x fr st=some r):∃k,leaveD A (runA A k) F n x fr st=some r:=by
 unfold leaveD at e ⊢
 cases hm:modeOf x with
 | none=>simp [hm] at e
 | some u =>
  simp only [hm] at e ⊢
  cases hc:runCalls A (runL A) fr.defs u st with
  | none=>simp [hc] at e
  | some q=>obtain ⟨k,hk⟩:=runCalls_cpt _ _ _ _ hc;exact ⟨k,by rw [hk];simpa [hc] using e⟩
theorem callFn_cpt {f:FuncId} {args:List AV} {st:St} {r:Res} (e:callFn A (runL A) f args st=some r):∃n,callFn A (runA A n) f args st=some r:=by
 unfold callFn at e ⊢
 cases hF:A.fn f with
 | none=>simp [hF] at e
 | some F =>
  simp only [hF] at e ⊢
  cases hx:exec (runL A) f none F.body ⟨args++List.replicate (F.ntmps-args.length) .undef,[]⟩ st with
  | none=>simp [hx] at e
  | some q =>
   obtain ⟨n,hn⟩:=exec_cpt _ _ _ _ hx
   rw [hx] at e
   obtain ⟨x,fr,st'⟩:=q
   simp only at e
   cases hrd:runDefs fr.defs st' with
   | some st2=>exact ⟨n,by rw [hn];simp only [hrd] at e ⊢;exact e⟩
   | none =>
    simp only [hrd] at e
    obtain ⟨k,hk⟩:=leaveD_cpt e
    exact ⟨max n k,by rw [exec_le (runA_mono A (Nat.le_max_left n k)) _ _ _ _ hn];simp only [hrd];exact leaveD_le (runA_mono A (Nat.le_max_right n k)) hk⟩
theorem roundFn_cpt {q:Nat} {args:List AV} {st:St} {r:Res} (e:roundFn A (runL A) q args st=some r):∃n,roundFn A (runA A n) q args st=some r:=by
 unfold roundFn at e ⊢
 split at e
 ·rename_i f site ps env d hst
  cases hF:A.fn f with
  | none=>simp [hF] at e
  | some F =>
   simp only [hF] at e ⊢
   cases hs:F.sites[site]? with
   | none=>simp [hs] at e
   | some ab =>
    obtain ⟨asg,body⟩:=ab
    simp only [hs] at e ⊢
    split at e
    ·rename_i hl
     simp only [if_pos hl]
     revert e
     generalize hx:exec (runL A) f (some q) asg _ st=res
     intro e
     cases res with
     | none=>simp at e
     | some z =>
      obtain ⟨n1,h1⟩:=exec_cpt _ _ _ _ hx
      obtain ⟨x,fr,st1⟩:=z
      cases x with
      | nrm =>
       simp only at e
       split at e
       ·rename_i p1 f1 s1 ps1 e1 d1 hq
        revert e
        generalize hy:exec (runL A) f (some q) body fr _=res2
        intro e
        cases res2 with
        | none=>rw [roundEnd_none] at e;cases e
        | some z2 =>
         obtain ⟨n2,h2⟩:=exec_cpt _ _ _ _ hy
         refine ⟨max n1 n2,?_⟩
         rw [exec_le (runA_mono A (Nat.le_max_left n1 n2)) _ _ _ _ h1]
         simp only [hq]
         rw [exec_le (runA_mono A (Nat.le_max_right n1 n2)) _ _ _ _ h2]
         exact e
       ·cases e
      | _=>simp at e
    ·cases e
 ·cases e
theorem layer_cpt {t:Task} {st:St} {r:Res} (e:layer A (runL A) t st=some r):∃n,layer A (runA A n) t st=some r:=by
 cases t with
 | call f args =>
  simp only [layer] at e ⊢
  cases hp:A.prim f with
  | some hh=>exact ⟨0,by simpa [hp] using e⟩
  | none=>simp only [hp] at e ⊢;exact callFn_cpt e
 | seqc f args =>
  simp only [layer] at e ⊢
  cases hp:A.prim f with
  | some hh=>simp [hp] at e
  | none=>simp only [hp] at e ⊢;exact callFn_cpt e
 | round q args=>exact roundFn_cpt e
 | loop f rnd body fr =>
  simp only [layer] at e ⊢
  cases hx:exec (runL A) f rnd body fr st with
  | none=>simp [hx] at e
  | some q =>
   obtain ⟨n1,h1⟩:=exec_cpt _ _ _ _ hx
   rw [hx] at e
   obtain ⟨x,fr',st'⟩:=q
   cases x with
   | nrm =>
    obtain ⟨n2,h2⟩:=runL_some.1 e
    exact ⟨max n1 n2,by rw [exec_le (runA_mono A (Nat.le_max_left n1 n2)) _ _ _ _ h1];exact runA_mono A (Nat.le_max_right n1 n2) _ _ _ h2⟩
   | _=>exact ⟨n1,by rw [h1];exact e⟩
theorem runL_eq (t:Task) (st:St):runL A t st=layer A (runL A) t st:=by
 cases h:layer A (runL A) t st with
 | some r =>
  obtain ⟨n,hn⟩:=layer_cpt h
  exact runL_some.2 ⟨n+1,hn⟩
 | none =>
  cases h2:runL A t st with
  | none=>rfl
  | some r =>
   obtain ⟨n,hn⟩:=runL_some.1 h2
   cases n with
   | zero=>cases hn
   | succ n =>
    have:=layer_le (A:=A) (runA_runL A n) _ _ _ hn
    rw [h] at this;cases this
end
end Go.Proofs.YtgkhmmlemgikjaaGreatDoor.Ai
namespace Go.Proofs.YtgkhmmlemgikjaaGreatDoor.Ai
open Go
theorem ev_set_self {e:Env} {i:Nat} {v:AV} (h:i<e.length):AX.ev (e.set i v) (.t i)=v:=by
 simp [AX.ev,List.getD_eq_getElem?_getD,List.getElem?_set_self h]
theorem ev_set_ne {e:Env} {i j:Nat} {v:AV} (h:i≠j):AX.ev (e.set i v) (.t j)=AX.ev e (.t j):=by
 simp [AX.ev,List.getD_eq_getElem?_getD,List.getElem?_set_ne h]
theorem ev_set_neb {e:Env} {i j:Nat} {v:AV} (h:(i == j)=false):AX.ev (e.set i v) (.t j)=AX.ev e (.t j):=ev_set_ne (by simpa using h)
theorem ev_k {e:Env} {v:AV}:AX.ev e (.k v)=v:=rfl
theorem set_len {e:Env} {i:Nat} {v:AV}:(e.set i v).length=e.length:=List.length_set
theorem wrap_i64 {n:Int} (h0:-9223372036854775808≤n) (h1:n≤9223372036854775807):IntKind.i64.wrap n=n:=by
 simp [IntKind.wrap,IntKind.signed,IntKind.bits]
 split<;>omega
end Go.Proofs.YtgkhmmlemgikjaaGreatDoor.Ai
namespace Go.Proofs.YtgkhmmlemgikjaaGreatDoor.Ai
open Go
abbrev PostQ:=AEx→Env→List ADef→St→Prop
def AW (A:AProg) (fn:FuncId) (rnd:Option Nat) (c:ACode) (e:Env) (ds:List ADef) (st:St) (Q:PostQ):Prop :=
 ∃x e' ds' st',exec (runL A) fn rnd c ⟨e,ds⟩ st=some ⟨x,⟨e',ds'⟩,st'⟩∧Q x e' ds' st'
def AWo (A:AProg) (os:List AOper) (e:Env) (ds:List ADef) (st:St) (Q:PostQ):Prop :=
 ∃x e' ds' st',doOps (runL A) os ⟨e,ds⟩ st=some ⟨x,⟨e',ds'⟩,st'⟩∧Q x e' ds' st'
def SeqQ (A:AProg) (fn:FuncId) (rnd:Option Nat) (b:ACode) (Q:PostQ):PostQ:=fun x e ds st=>match x with
 | .nrm=>AW A fn rnd b e ds st Q
 | x=>Q x e ds st
def Blk (id:Nat) (Q:PostQ):PostQ:=fun x e ds st=>match x with
 | .exit j=>Q (if j=id then .nrm else .exit j) e ds st
 | x=>Q x e ds st
section
variable {A:AProg} {fn:FuncId} {rnd:Option Nat} {e:Env} {ds:List ADef} {st:St} {Q:PostQ}
theorem sq_nrm {b}:SeqQ A fn rnd b Q .nrm e ds st↔AW A fn rnd b e ds st Q:=Iff.rfl
theorem sq_ret {b}:SeqQ A fn rnd b Q .ret e ds st↔Q .ret e ds st:=Iff.rfl
theorem sq_exit {b j}:SeqQ A fn rnd b Q (.exit j) e ds st↔Q (.exit j) e ds st:=Iff.rfl
theorem sq_pan {b v}:SeqQ A fn rnd b Q (.pan v) e ds st↔Q (.pan v) e ds st:=Iff.rfl
theorem blk_nrm {id}:Blk id Q .nrm e ds st↔Q .nrm e ds st:=Iff.rfl
theorem blk_ret {id}:Blk id Q .ret e ds st↔Q .ret e ds st:=Iff.rfl
theorem blk_exit {id j}:Blk id Q (.exit j) e ds st↔Q (if j=id then .nrm else .exit j) e ds st:=Iff.rfl
theorem blk_pan {id v}:Blk id Q (.pan v) e ds st↔Q (.pan v) e ds st:=Iff.rfl
theorem aw_skip:AW A fn rnd .skip e ds st Q↔Q .nrm e ds st:=by
 constructor
 ·rintro ⟨x,e',ds',st',h,hq⟩;cases h;exact hq
 ·intro h;exact ⟨_,_,_,_,rfl,h⟩
theorem aw_exit {id}:AW A fn rnd (.exit id) e ds st Q↔Q (.exit id) e ds st:=by
 constructor
 ·rintro ⟨x,e',ds',st',h,hq⟩;cases h;exact hq
 ·intro h;exact ⟨_,_,_,_,rfl,h⟩
theorem aw_ret:AW A fn rnd .ret e ds st Q↔Q .ret e ds st:=by
 constructor
 ·rintro ⟨x,e',ds',st',h,hq⟩;cases h;exact hq
 ·intro h;exact ⟨_,_,_,_,rfl,h⟩
theorem aw_reg {os}:AW A fn rnd (.reg os) e ds st Q↔AWo A os e ds st Q:=Iff.rfl
theorem aw_seq {a b}:AW A fn rnd (.seq a b) e ds st Q↔AW A fn rnd a e ds st (SeqQ A fn rnd b Q):=by
 constructor
 ·rintro ⟨x,e',ds',st',h,hq⟩
  simp only [exec] at h
  cases ha:exec (runL A) fn rnd a ⟨e,ds⟩ st with
  | none=>rw [ha] at h;cases h
  | some r =>
   obtain ⟨y,⟨e1,d1⟩,st1⟩:=r
   rw [ha] at h
   refine ⟨y,e1,d1,st1,ha,?_⟩
   cases y with
   | nrm=>exact ⟨x,e',ds',st',h,hq⟩
   | _=>cases h;exact hq
 ·rintro ⟨y,e1,d1,st1,ha,hq⟩
  cases y with
  | nrm =>
   obtain ⟨x,e',ds',st',h,hq⟩:=hq
   exact ⟨x,e',ds',st',by simp only [exec,ha];exact h,hq⟩
  | _=>exact ⟨_,_,_,_,by simp only [exec,ha],hq⟩
theorem aw_block {id a}:AW A fn rnd (.block id a) e ds st Q↔AW A fn rnd a e ds st (Blk id Q):=by
 constructor
 ·rintro ⟨x,e',ds',st',h,hq⟩
  simp only [exec] at h
  cases ha:exec (runL A) fn rnd a ⟨e,ds⟩ st with
  | none=>rw [ha] at h;cases h
  | some r =>
   obtain ⟨y,⟨e1,d1⟩,st1⟩:=r
   rw [ha] at h
   refine ⟨y,e1,d1,st1,ha,?_⟩
   cases y<;>(cases h;exact hq)
 ·rintro ⟨y,e1,d1,st1,ha,hq⟩
  cases y<;>exact ⟨_,_,_,_,by simp only [exec,ha],hq⟩
def opWrites:List AOper→List Nat
 | []=>[]
 | o::os=>match o.dst with
  | some d=>d::opWrites os
  | none=>opWrites os
def stepWrites:List AStep→List Nat
 | []=>[]
 | s::os=>match s.o.dst with
  | some d=>d::stepWrites os
  | none=>stepWrites os
def ACode.writes:ACode→List Nat
 | .reg os=>opWrites os
 | .plan ss=>stepWrites ss
 | .seq a b=>a.writes++b.writes
 | .cond _ a b=>a.writes++b.writes
 | .block _ a=>a.writes
 | .loop a=>a.writes
 | _=>[]
def Same (W:List Nat) (e e':Env):Prop:=e'.length=e.length∧∀s,W.contains s=false→AX.ev e' (.t s)=AX.ev e (.t s)
theorem Same.refl {W e}:Same W e e:=⟨rfl,fun _ _=>rfl⟩
theorem Same.trans {W e e1 e2} (h:Same W e e1) (g:Same W e1 e2):Same W e e2:=⟨g.1.trans h.1,fun s hs=>(g.2 s hs).trans (h.2 s hs)⟩
theorem Same.sub {W W' e e'} (h:Same W e e') (g:∀s,W'.contains s=false→W.contains s=false):Same W' e e':=⟨h.1,fun s hs=>h.2 s (g s hs)⟩
theorem Same.ev {W e e' v} (h:Same W e e') (s:Nat) (hs:W.contains s=false) (hv:AX.ev e (.t s)=v):AX.ev e' (.t s)=v:=(h.2 s hs).trans hv
theorem Same.set {W e} {d:Nat} {v:AV} (hd:W.contains d=true):Same W e (e.set d v) :=
 ⟨set_len,fun s hs=>ev_set_ne (fun h=>by rw [h,hs] at hd;cases hd)⟩
theorem doOp_same {g} {o:AOper} {fr fr':Fr} {st st':St} {x} (h:doOp g o fr st=some ⟨x,fr',st'⟩) (W:List Nat) (hW:∀d,o.dst=some d→W.contains d=true):Same W fr.env fr'.env:=by
 have key:∀v,Same W fr.env (setDst o.dst fr.env v):=by
  intro v
  cases ho:o.dst with
  | none=>exact Same.refl
  | some d=>exact Same.set (hW d ho)
 unfold doOp at h
 split at h
 ·cases h
 ·cases h;exact key _
 ·split at h
  ·cases h
  ·cases h;exact key _
  ·cases h;exact Same.refl
  ·cases h;exact key _
  ·split at h
   ·cases h;exact key _
   ·cases h;exact Same.refl
   ·cases h
  ·split at h
   ·cases h;exact key _
   ·cases h;exact Same.refl
   ·cases h
theorem doOps_same {g} (W:List Nat):∀(os:List AOper) (fr fr':Fr) (st st':St) (x),doOps g os fr st=some ⟨x,fr',st'⟩→(∀d,d∈opWrites os→W.contains d=true)→Same W fr.env fr'.env
 | [],fr,fr',st,st',x,h,_=>by cases h;exact Same.refl
 | o::os,fr,fr',st,st',x,h,hW=>by
  simp only [doOps] at h
  have h1:∀d,o.dst=some d→W.contains d=true:=fun d hd=>hW d (by simp [opWrites,hd])
  have h2:∀d,d∈opWrites os→W.contains d=true:=fun d hd=>hW d (by unfold opWrites;split<;>simp [hd])
  cases hd:doOp g o fr st with
  | none=>rw [hd] at h;cases h
  | some r =>
   obtain ⟨y,f1,s1⟩:=r
   rw [hd] at h
   cases y with
   | nrm=>exact (doOp_same hd W h1).trans (doOps_same W os _ _ _ _ _ h h2)
   | _=>cases h;exact doOp_same hd W h1
theorem doSteps_same {g} (W:List Nat) (all:List AStep):∀(os:List AStep) (fr fr':Fr) (st st':St) (x),doSteps g all os fr st=some ⟨x,fr',st'⟩→(∀d,d∈stepWrites os→W.contains d=true)→Same W fr.env fr'.env
 | [],fr,fr',st,st',x,h,_=>by cases h;exact Same.refl
 | o::os,fr,fr',st,st',x,h,hW=>by
  simp only [doSteps] at h
  have h1:∀d,o.o.dst=some d→W.contains d=true:=fun d hd=>hW d (by simp [stepWrites,hd])
  have h2:∀d,d∈stepWrites os→W.contains d=true:=fun d hd=>hW d (by unfold stepWrites;split<;>simp [hd])
  cases hd:doOp g o.o fr st with
  | none=>rw [hd] at h;cases h
  | some r =>
   obtain ⟨y,f1,s1⟩:=r
   rw [hd] at h
   cases y with
   | nrm =>
    simp only at h
    split at h
    ·exact (doOp_same hd W h1).trans (doSteps_same W all os _ _ _ _ _ h h2)
    ·cases h
   | _=>cases h;exact doOp_same hd W h1
theorem exec_same {fn:FuncId} {rnd:Option Nat} {A:AProg} (W:List Nat) (n:Nat)
  (hloop:∀body fr st x fr' st',(∀d,d∈body.writes→W.contains d=true)→runA A n (.loop fn rnd body fr) st=some ⟨x,fr',st'⟩→Same W fr.env fr'.env) :
  ∀(c:ACode) (fr fr':Fr) (st st':St) (x),exec (runA A n) fn rnd c fr st=some ⟨x,fr',st'⟩→(∀d,d∈c.writes→W.contains d=true)→Same W fr.env fr'.env:=by
   intro c
   induction c with
   | skip=>intro fr fr' st st' x h _;cases h;exact Same.refl
   | exit _=>intro fr fr' st st' x h _;cases h;exact Same.refl
   | ret=>intro fr fr' st st' x h _;cases h;exact Same.refl
   | reg os=>intro fr fr' st st' x h hW;exact doOps_same W os _ _ _ _ _ h hW
   | plan ss=>intro fr fr' st st' x h hW;exact doSteps_same W ss ss _ _ _ _ _ h hW
   | seq a b iha ihb =>
    intro fr fr' st st' x h hW
    simp only [exec] at h
    have h1:∀d,d∈a.writes→W.contains d=true:=fun d hd=>hW d (by simp [ACode.writes,hd])
    have h2:∀d,d∈b.writes→W.contains d=true:=fun d hd=>hW d (by simp [ACode.writes,hd])
    cases hd:exec (runA A n) fn rnd a fr st with
    | none=>rw [hd] at h;cases h
    | some r =>
     obtain ⟨y,f1,s1⟩:=r
     rw [hd] at h
     cases y with
     | nrm=>exact (iha _ _ _ _ _ hd h1).trans (ihb _ _ _ _ _ h h2)
     | _=>cases h;exact iha _ _ _ _ _ hd h1
   | cond c a b iha ihb =>
    intro fr fr' st st' x h hW
    simp only [exec] at h
    have h1:∀d,d∈a.writes→W.contains d=true:=fun d hd=>hW d (by simp [ACode.writes,hd])
    have h2:∀d,d∈b.writes→W.contains d=true:=fun d hd=>hW d (by simp [ACode.writes,hd])
    split at h
    ·split at h
     ·exact iha _ _ _ _ _ h h1
     ·exact ihb _ _ _ _ _ h h2
    ·cases h
   | block id a iha =>
    intro fr fr' st st' x h hW
    simp only [exec] at h
    cases hd:exec (runA A n) fn rnd a fr st with
    | none=>rw [hd] at h;cases h
    | some r =>
     obtain ⟨y,f1,s1⟩:=r
     rw [hd] at h
     cases y<;>(cases h;exact iha _ _ _ _ _ hd hW)
   | loop a _=>intro fr fr' st st' x h hW;exact hloop a _ _ _ _ _ hW h
   | rangeFunc f ps site =>
    intro fr fr' st st' x h _
    simp only [exec] at h
    split at h
    ·split at h
     ·cases h
     ·unfold rangeEnd at h
      split at h
      ·split at h
       ·split at h
        ·cases h
        ·cases h;exact Same.refl
       ·cases h
      ·cases h;exact Same.refl
      ·cases h
    ·cases h
theorem runA_same {fn:FuncId} {rnd:Option Nat} {A:AProg} (W:List Nat):∀n body fr st x fr' st',(∀d,d∈body.writes→W.contains d=true)→runA A n (.loop fn rnd body fr) st=some ⟨x,fr',st'⟩→Same W fr.env fr'.env:=by
 intro n
 induction n with
 | zero=>intro body fr st x fr' st' _ h;cases h
 | succ n ih =>
  intro body fr st x fr' st' hW h
  have hex:=exec_same (fn:=fn) (rnd:=rnd) (A:=A) W n ih
  simp only [runA,layer] at h
  cases hd:exec (runA A n) fn rnd body fr st with
  | none=>rw [hd] at h;cases h
  | some r =>
   obtain ⟨y,f1,s1⟩:=r
   rw [hd] at h
   cases y with
   | nrm=>exact (hex _ _ _ _ _ _ hd hW).trans (ih _ _ _ _ _ _ hW h)
   | _=>cases h;exact hex _ _ _ _ _ _ hd hW
theorem aw_same {c:ACode} (h:AW A fn rnd c e ds st Q):AW A fn rnd c e ds st (fun x e' ds st=>Same c.writes e e'∧Q x e' ds st):=by
 obtain ⟨x,e',ds',st',hx,hq⟩:=h
 refine ⟨x,e',ds',st',hx,?_,hq⟩
 obtain ⟨n,hn⟩:=exec_cpt c _ _ _ hx
 exact exec_same c.writes n (runA_same c.writes n) c _ _ _ _ _ hn (fun d hd=>List.contains_iff_mem.2 hd)
theorem aw_loop {body:ACode} {W:List Nat} (hW:W=body.writes) (I:Nat→Env→List ADef→St→Prop) (k:Nat) (h:I k e ds st)
  (step:∀k e1 ds st,Same W e e1→I k e1 ds st→∀K:PostQ,(∀k' e2 ds st,k'<k→I k' e2 ds st→K .nrm e2 ds st) →
   (∀x e2 ds st,x≠.nrm→(Same W e e2→Q x e2 ds st)→K x e2 ds st)→AW A fn rnd body e1 ds st K) :
  AW A fn rnd (.loop body) e ds st Q:=by
 subst hW
 have gen:∀k e1 ds st,Same body.writes e e1→I k e1 ds st→AW A fn rnd (.loop body) e1 ds st Q:=by
  intro k
  induction k using Nat.strongRecOn with
  | ind k ih =>
   intro e1 ds st hs h
   have hst:=step k e1 ds st hs h (fun x e2 ds st=>(x=.nrm∧∃k',k'<k∧I k' e2 ds st)∨(x≠.nrm∧(Same body.writes e e2→Q x e2 ds st)))
    (fun k' e2 ds st hk hI=>.inl ⟨rfl,k',hk,hI⟩) (fun x e2 ds st hx hq=>.inr ⟨hx,hq⟩)
   obtain ⟨x,e2,d1,st1,hx,hs2,hq⟩:=aw_same hst
   have hs3:=hs.trans hs2
   rcases hq with ⟨rfl,k',hk,hI⟩ | ⟨hne,hq⟩
   ·obtain ⟨y,e2,d2,st2,hy,hq2⟩:=ih k' hk _ _ _ hs3 hI
    refine ⟨y,e2,d2,st2,?_,hq2⟩
    simp only [exec] at hy ⊢
    rw [runL_eq]
    simp only [layer,hx]
    exact hy
   ·cases x with
    | nrm=>exact absurd rfl hne
    | _ =>
     refine ⟨_,e2,d1,st1,?_,hq hs3⟩
     simp only [exec]
     rw [runL_eq]
     simp only [layer,hx]
 exact gen k e ds st Same.refl h
theorem ao_nil:AWo A [] e ds st Q↔Q .nrm e ds st:=by
 constructor
 ·rintro ⟨x,e',ds',st',h,hq⟩;cases h;exact hq
 ·intro h;exact ⟨_,_,_,_,rfl,h⟩
def GrdQ:Option Bool→Prop→Prop→Prop
 | some true,p,_=>p
 | some false,_,q=>q
 | none,_,_=>False
theorem grd_some {b p q}:GrdQ (some b) p q↔(b=true→p)∧(b=false→q):=by cases b<;>simp [GrdQ]
theorem lows_all {n:Nat}:∀{es:List AV},(∀x∈es,AV.lowB n x=true)→AV.lowsB n es=true
 | [],_=>rfl
 | a::es,h=>by simp only [AV.lowsB,Bool.and_eq_true];exact ⟨h a (by simp),lows_all fun x hx=>h x (by simp [hx])⟩
theorem lows_iff {n:Nat}:∀{es:List AV},AV.lowsB n es=true↔∀x∈es,AV.lowB n x=true
 | []=>by simp [AV.lowsB]
 | a::es=>by simp [AV.lowsB,lows_iff (es:=es)]
def StOk (st:St):Prop:=st.all (AObj.lowB st.length)=true
mutual
theorem AV.low_le {n k:Nat} (h:n≤k):∀v:AV,AV.lowB n v=true→AV.lowB k v=true
 | .agg cs,g=>by simp only [AV.lowB] at g ⊢;exact AV.lows_le h cs g
 | .tup vs,g=>by simp only [AV.lowB] at g ⊢;exact AV.lows_le h vs g
 | .func fn a b,g=>by
  simp only [AV.lowB,Bool.and_eq_true] at g ⊢
  refine ⟨⟨?_,AV.lows_le h a g.1.2⟩,AV.lows_le h b g.2⟩
  have:=g.1.1
  split at this<;>simp at this ⊢
  omega
 | .iface _ v,g=>by simp only [AV.lowB] at g ⊢;exact AV.low_le h v g
 | .lst _ es ap,g=>by
  simp only [AV.lowB,Bool.and_eq_true] at g ⊢
  refine ⟨AV.lows_le h es g.1,?_⟩
  have:=g.2
  split at this<;>simp at this ⊢
  omega
 | .sl r _ _ _ _,g=>by simp only [AV.lowB,decide_eq_true_eq] at g ⊢;omega
 | .ptr r _,g=>by simp only [AV.lowB,decide_eq_true_eq] at g ⊢;omega
 | .iptr v,g=>by simp only [AV.lowB] at g ⊢;exact AV.low_le h v g
 | .map r,g=>by simp only [AV.lowB,decide_eq_true_eq] at g ⊢;omega
 | .bool _,_=>rfl
 | .int _ _,_=>rfl
 | .str _,_=>rfl
 | .nilFunc,_=>rfl
 | .nilIface,_=>rfl
 | .nilPtr,_=>rfl
 | .nilMap,_=>rfl
 | .nilSl,_=>rfl
 | .any,_=>rfl
theorem AV.lows_le {n k:Nat} (h:n≤k):∀vs:List AV,AV.lowsB n vs=true→AV.lowsB k vs=true
 | [],_=>rfl
 | v::vs,g=>by simp only [AV.lowsB,Bool.and_eq_true] at g ⊢;exact ⟨AV.low_le h v g.1,AV.lows_le h vs g.2⟩
end
theorem ADef.low_le {n k:Nat} (h:n≤k):∀d:ADef,ADef.lowB n d=true→ADef.lowB k d=true
 | .collected r,g=>by simp only [ADef.lowB,decide_eq_true_eq] at g ⊢;omega
 | .call _ args,g=>by simp only [ADef.lowB] at g ⊢;exact AV.lows_le h args g
theorem AObj.low_le {n k:Nat} (h:n≤k):∀o:AObj,AObj.lowB n o=true→AObj.lowB k o=true
 | .dead,_=>rfl
 | .cells _ cs,g=>by simp only [AObj.lowB] at g ⊢;exact AV.lows_le h cs g
 | .tok _ _ _,_=>rfl
 | .map es,g=>by
  simp only [AObj.lowB,List.all_eq_true,Bool.and_eq_true] at g ⊢
  exact fun e he=>⟨AV.low_le h _ (g e he).1,AV.low_le h _ (g e he).2⟩
 | .loop _ _ _ _ _ env d,g=>by
  simp only [AObj.lowB,Bool.and_eq_true,decide_eq_true_eq] at g ⊢
  exact ⟨AV.lows_le h env g.1,by omega⟩
 | .defr none,_=>rfl
 | .defr (some ds),g=>by
  simp only [AObj.lowB,List.all_eq_true] at g ⊢
  exact fun d hd=>ADef.low_le h d (g d hd)
theorem StOk.nil:StOk []:=rfl
theorem StOk.snoc {st:St} {o:AObj} (h:StOk st) (g:AObj.lowB (st.length+1) o=true):StOk (st++[o]):=by
 unfold StOk at *
 simp only [List.all_append,List.length_append,List.length_cons,List.length_nil,List.all_cons,List.all_nil,Bool.and_true,Bool.and_eq_true]
 refine ⟨?_,by simpa using g⟩
 rw [List.all_eq_true] at h ⊢
 exact fun x hx=>AObj.low_le (by omega) x (h x hx)
theorem task_of_aw {f:FuncId} {F:AFunc} {args:List AV} {v:AV} {N:Nat} (hp:A.prim f=none) (hf:A.fn f=some F) (hk:F.keep=false) (hN:args.length+(F.ntmps-args.length)=N)
  (hst:StOk st)
  (h:∀e:Env,e.length=N→(∀i,AX.ev e (.t i)=args.getD i .undef)→∀K:PostQ,
   (∀x e st',(x=.ret∨x=.nrm)→st'.take st.length=st→(∃vs,resultsA st' e F.results=some vs∧AV.still st.length st' (oneOf vs)=some v)→K x e [] st')→AW A f none F.body e [] st K) :
  runL A (.call f args) st=some ⟨.ret,⟨[v],[]⟩,st⟩∧runL A (.seqc f args) st=some ⟨.ret,⟨[v],[]⟩,st⟩:=by
 have hev:∀i,AX.ev (args++List.replicate (F.ntmps-args.length) .undef) (.t i)=args.getD i .undef:=by
  intro i
  simp only [AX.ev,List.getD_eq_getElem?_getD]
  by_cases hi:i<args.length
  ·rw [List.getElem?_append_left hi]
  ·rw [List.getElem?_append_right (by omega),List.getElem?_eq_none (by omega:args.length≤i),List.getElem?_replicate]
   split<;>rfl
 obtain ⟨x,e',ds',st',hx,h1,h2,h3,vs,h4,h5⟩:=h (args++List.replicate (F.ntmps-args.length) .undef) (by simpa using hN) hev
  (fun x e ds st'=>(x=.ret∨x=.nrm)∧ds=[]∧st'.take st.length=st∧∃vs,resultsA st' e F.results=some vs∧AV.still st.length st' (oneOf vs)=some v)
  (fun x e st' h1 h2 h3=>⟨h1,rfl,h2,h3⟩)
 subst h2
 have hs:Ai.settle st.length (oneOf vs) st'=some (v,st):=by
  simp only [Ai.settle,h5,h3,show st.all (AObj.lowB st.length)=true from hst,if_true]
 constructor<;>rw [runL_eq]<;>simp only [layer,hp,callFn,hf,hx,runDefs]<;>rcases h1 with rfl | rfl<;>simp only [h4,hk,hs,Bool.false_eq_true,if_false]
theorem task_of_aw_keep {f:FuncId} {F:AFunc} {args:List AV} {v:AV} {N:Nat} (hp:A.prim f=none) (hf:A.fn f=some F) (hk:F.keep=true) (hN:args.length+(F.ntmps-args.length)=N)
  {st':St} (h:∀e:Env,e.length=N→(∀i,AX.ev e (.t i)=args.getD i .undef)→∀K:PostQ,
   (∀x e,(x=.ret∨x=.nrm)→(∃vs,resultsA st' e F.results=some vs∧oneOf vs=v)→K x e [] st')→AW A f none F.body e [] st K) :
  runL A (.call f args) st=some ⟨.ret,⟨[v],[]⟩,st'⟩∧runL A (.seqc f args) st=some ⟨.ret,⟨[v],[]⟩,st'⟩:=by
 have hev:∀i,AX.ev (args++List.replicate (F.ntmps-args.length) .undef) (.t i)=args.getD i .undef:=by
  intro i
  simp only [AX.ev,List.getD_eq_getElem?_getD]
  by_cases hi:i<args.length
  ·rw [List.getElem?_append_left hi]
  ·rw [List.getElem?_append_right (by omega),List.getElem?_eq_none (by omega:args.length≤i),List.getElem?_replicate]
   split<;>rfl
 obtain ⟨x,e',ds',st1,hx,h1,h2,h3,vs,h4,h5⟩:=h (args++List.replicate (F.ntmps-args.length) .undef) (by simpa using hN) hev
  (fun x e ds st1=>(x=.ret∨x=.nrm)∧ds=[]∧st1=st'∧∃vs,resultsA st' e F.results=some vs∧oneOf vs=v)
  (fun x e h1 h2=>⟨h1,rfl,rfl,h2⟩)
 subst h2 h3
 constructor<;>rw [runL_eq]<;>simp only [layer,hp,callFn,hf,hx,runDefs]<;>rcases h1 with rfl | rfl<;>simp only [h4,hk,h5,if_true]
end
theorem wanted_some {t:Nat} {w:Bool} {e:Env} (h:t<e.length):wantedA (some (t,w)) e=match AX.ev e (.t t) with
  | .bool b=>some (b == w)
  | .tup []=>some false
  | _=>none:=by
 simp only [wantedA,AX.ev,List.getD_eq_getElem?_getD,List.getElem?_eq_getElem h,Option.getD_some]
 generalize e[t]=v
 cases v<;>try rfl
 rename_i vs
 cases vs<;>rfl
theorem wanted_none {e:Env}:wantedA none e=some true:=rfl
theorem nat_neg {i:Nat}:((i:Int)<0)↔False:=by simp
theorem cells_agg {cs:List AV}:(AV.agg cs).cells=cs:=rfl
theorem cells_cell {v:AV} (h:v.isCell=true):v.cells=[v]:=by cases v<;>first | rfl | cases h
theorem isc_bool {b}:(AV.bool b).isCell=true:=rfl
theorem isc_int {k n}:(AV.int k n).isCell=true:=rfl
theorem isc_str {s}:(AV.str s).isCell=true:=rfl
theorem isc_agg {s}:(AV.agg s).isCell=false:=rfl
theorem isc_tup {s}:(AV.tup s).isCell=false:=rfl
theorem isc_func {f a b}:(AV.func f a b).isCell=true:=rfl
theorem isc_nilFunc:AV.nilFunc.isCell=true:=rfl
theorem isc_iface {f a}:(AV.iface f a).isCell=true:=rfl
theorem isc_nilIface:AV.nilIface.isCell=true:=rfl
theorem isc_lst {m es ap}:(AV.lst m es ap).isCell=true:=rfl
theorem isc_sl {a b c d e}:(AV.sl a b c d e).isCell=true:=rfl
theorem isc_ptr {a b}:(AV.ptr a b).isCell=true:=rfl
theorem isc_iptr {a}:(AV.iptr a).isCell=true:=rfl
theorem isc_nilPtr:AV.nilPtr.isCell=true:=rfl
theorem isc_map {a}:(AV.map a).isCell=true:=rfl
theorem isc_nilMap:AV.nilMap.isCell=true:=rfl
theorem isc_nilSl:AV.nilSl.isCell=true:=rfl
theorem asl_lst {k m es ap}:(AV.lst m es ap).asLst k=.lst m es ap:=rfl
theorem asl_sl {k a b c d e}:(AV.sl a b c d e).asLst k=.sl a b c d e:=rfl
theorem asl_nil {k}:AV.nilSl.asLst k=.lst k [] .tight:=rfl
attribute [simp] cells_agg cells_cell isc_bool isc_int isc_str isc_agg isc_tup isc_func isc_nilFunc isc_iface isc_nilIface isc_lst isc_sl isc_ptr isc_iptr isc_nilPtr isc_map isc_nilMap isc_nilSl asl_lst asl_sl asl_nil
theorem res_tmp {st:St} {e:Env} {i:Nat}:resA st e (.tmp i)=some (AX.ev e (.t i)):=rfl
attribute [simp] AV.undef res_tmp resultsA oneOf AV.still AV.lowB nat_neg wanted_some wanted_none
theorem bin_add {k:IntKind} {x y:Int}:binA .add (.int k x) (.int k y)=some (.int k (k.wrap (x+y))):=by simp [binA,intOp]
theorem bin_sub {k:IntKind} {x y:Int}:binA .sub (.int k x) (.int k y)=some (.int k (k.wrap (x-y))):=by simp [binA,intOp]
theorem bin_mul {k:IntKind} {x y:Int}:binA .mul (.int k x) (.int k y)=some (.int k (k.wrap (x * y))):=by simp [binA,intOp]
theorem bin_quo {k:IntKind} {x y:Int}:binA .quo (.int k x) (.int k y)=if y=0 then none else some (.int k (k.wrap (x.tdiv y))):=by simp [binA,intOp]
theorem bin_rem {k:IntKind} {x y:Int}:binA .rem (.int k x) (.int k y)=if y=0 then none else some (.int k (x.tmod y)):=by simp [binA,intOp]
theorem bin_eql {k:IntKind} {x y:Int}:binA .eql (.int k x) (.int k y)=some (.bool (decide (x=y))):=by simp only [binA,intOp,if_true];rfl
theorem bin_neq {k:IntKind} {x y:Int}:binA .neq (.int k x) (.int k y)=some (.bool (!decide (x=y))):=by simp only [binA,intOp,if_true];rfl
theorem bin_lss {k:IntKind} {x y:Int}:binA .lss (.int k x) (.int k y)=some (.bool (decide (x<y))):=by simp [binA,intOp]
theorem bin_leq {k:IntKind} {x y:Int}:binA .leq (.int k x) (.int k y)=some (.bool (decide (x≤y))):=by simp [binA,intOp]
theorem bin_gtr {k:IntKind} {x y:Int}:binA .gtr (.int k x) (.int k y)=some (.bool (decide (x > y))):=by simp [binA,intOp]
theorem bin_geq {k:IntKind} {x y:Int}:binA .geq (.int k x) (.int k y)=some (.bool (decide (x ≥ y))):=by simp [binA,intOp]
theorem bin_and {k:IntKind} {x y:Int}:binA .and (.int k x) (.int k y)=some (.int k (k.wrap (BitVec.ofInt k.bits x &&& BitVec.ofInt k.bits y).toNat)):=by simp [binA,intOp]
theorem bin_or {k:IntKind} {x y:Int}:binA .or (.int k x) (.int k y)=some (.int k (k.wrap (BitVec.ofInt k.bits x ||| BitVec.ofInt k.bits y).toNat)):=by simp [binA,intOp]
theorem bin_xor {k:IntKind} {x y:Int}:binA .xor (.int k x) (.int k y)=some (.int k (k.wrap (BitVec.ofInt k.bits x ^^^ BitVec.ofInt k.bits y).toNat)):=by simp [binA,intOp]
theorem bin_andNot {k:IntKind} {x y:Int}:binA .andNot (.int k x) (.int k y)=some (.int k (k.wrap (BitVec.ofInt k.bits x &&& ~~~ BitVec.ofInt k.bits y).toNat)):=by simp [binA,intOp]
theorem bin_shl {k l:IntKind} {x y:Int}:binA .shl (.int k x) (.int l y)=shiftOp .shl k x y:=rfl
theorem bin_shr {k l:IntKind} {x y:Int}:binA .shr (.int k x) (.int l y)=shiftOp .shr k x y:=rfl
theorem sbin_add {x y:List UInt8}:binA .add (.str x) (.str y)=if x.length+y.length≤281474976710656 then some (.str (x++y)) else none:=rfl
theorem sbin_eql {x y:List UInt8}:binA .eql (.str x) (.str y)=some (.bool (decide (x=y))):=by
 have h:(x == y)=decide (x=y):=by by_cases h:x=y<;>simp [h]
 simp only [binA,strOp,h]
theorem sbin_neq {x y:List UInt8}:binA .neq (.str x) (.str y)=some (.bool (!decide (x=y))):=by
 have h:(x == y)=decide (x=y):=by by_cases h:x=y<;>simp [h]
 simp only [binA,strOp,h]
theorem sbin_lss {x y:List UInt8}:binA .lss (.str x) (.str y)=some (.bool (bytesLess x y)):=rfl
theorem sbin_leq {x y:List UInt8}:binA .leq (.str x) (.str y)=some (.bool (bytesLess x y || x == y)):=rfl
theorem sbin_gtr {x y:List UInt8}:binA .gtr (.str x) (.str y)=some (.bool (!(bytesLess x y || x == y))):=rfl
theorem sbin_geq {x y:List UInt8}:binA .geq (.str x) (.str y)=some (.bool (!bytesLess x y)):=rfl
theorem un_neg {k:IntKind} {n:Int}:unA .neg (.int k n)=some (.int k (k.wrap (0-n))):=rfl
theorem un_not {b:Bool}:unA .not (.bool b)=some (.bool (!b)):=rfl
attribute [simp] bin_add bin_sub bin_mul bin_quo bin_rem bin_eql bin_neq bin_lss bin_leq bin_gtr bin_geq bin_and bin_or bin_xor bin_andNot bin_shl bin_shr sbin_add sbin_eql sbin_neq sbin_lss sbin_leq sbin_gtr sbin_geq un_neg un_not
theorem reAll_nil {all:List AStep} {fr:Fr} {st:St}:reAll all [] fr st=true:=rfl
def findStep:List AStep→Nat→Option AOper
 | [],_=>none
 | s::ss,j=>bif s.i == j then some s.o else findStep ss j
theorem findStep_hit {i j:Nat} {o:AOper} {re:List Nat} {ss:List AStep} (h:(i == j)=true):findStep (⟨i,o,re⟩::ss) j=some o:=by simp [findStep,h]
theorem findStep_miss {i j:Nat} {o:AOper} {re:List Nat} {ss:List AStep} (h:(i == j)=false):findStep (⟨i,o,re⟩::ss) j=findStep ss j:=by simp [findStep,h]
def reOne (fr:Fr) (st:St):Option AOper→Bool
 | some o=>reOk o fr st
 | none=>false
theorem reOne_some {o:AOper} {fr:Fr} {st:St}:reOne fr st (some o)=reOk o fr st:=rfl
theorem reAll_cons {all:List AStep} {j:Nat} {re:List Nat} {fr:Fr} {st:St}:reAll all (j::re) fr st=(reOne fr st (findStep all j) && reAll all re fr st):=by
 have key:∀l:List AStep,(match l.find? (fun q=>q.i == j) with | some q=>reOk q.o fr st | none=>false)=reOne fr st (findStep l j):=by
  intro l
  induction l with
  | nil=>rfl
  | cons s l ih =>
   simp only [List.find?_cons,findStep]
   cases h:s.i == j with
   | true=>rfl
   | false=>exact ih
 have h:=key all
 unfold reAll
 rw [List.all_cons,←h]
 rfl
attribute [simp] reAll_nil reAll_cons findStep_hit findStep_miss reOne_some
def appendA (m bytes:Nat) (ty:Option TypeId) (st:St) (x y:AV):Option Nx :=
 (elemsOf st m y).bind fun ys=>match x.asLst m with
   | .lst m' es ap =>
    if (m'=m∨es=[])∧es.length+ys.length≤great∧bytes≤256 then
     match ap with
     | .tight=>if ys=[] then some (.val (.lst m es .tight) st) else some (.val (.lst m (es++ys) (.tok st.length)) (st++[.tok m (es.length+ys.length) ty]))
     | .tok id=>if tokIs st id m es.length then
       (if ys = [] then some (.val (.lst m es (.tok id)) st)
        else some (.val (.lst m (es++ys) (.tok id)) (st.set id (.tok m (es.length+ys.length) (if tokTy st id=ty then ty else none))))) else none
     | .no=>none
    else none
   | _=>none
theorem opA_append {m bytes ty x y e st}:opA (.append m bytes ty x y) e st=appendA m bytes ty st (x.ev e) (y.ev e):=rfl
def appendMA (m bytes : Nat) (st : St) (x y : AV) : Option Nx :=
    (elemsOf st m y).bind fun ys=>match x.asLst m with
     | .lst _ [] .tight =>
      if ys.length≤great∧bytes≤256 then (if ys=[] then some (.val (.lst m [] .tight) st) else some (.val (.sl st.length m 0 ys.length none) (st++[.cells none (flat ys)]))) else none
     | .sl r m' 0 n cap=>match st[r]? with
      | some (.cells _ cs)=>if m'=m∧cs.length=n * m∧n+ys.length≤great∧bytes≤256 then
        (if ys=[] then some (.val (.sl r m 0 n cap) st) else some (.val (.sl st.length m 0 (n+ys.length) none) (st.set r .dead++[.cells none (cs++flat ys)]))) else none
      | _=>none
     | _=>none
theorem opA_appendM {m bytes x y e st}:opA (.appendM m bytes x y) e st=appendMA m bytes st (x.ev e) (y.ev e):=rfl
theorem opA_mov {x:AX} {e:Env} {st:St}:opA (.mov x) e st=(some (.val (x.ev e) st)):=rfl
theorem opA_movT {x:AX} {e:Env} {st:St}:opA (.movT x) e st=(match x.ev e with
  | .lst m [] .tight=>some (.val (.lst m [] (.tok st.length)) (st++[.tok m 0 none]))
  | _=>none):=rfl
theorem opA_pick {c:AX} {a:AX} {b:AX} {e:Env} {st:St}:opA (.pick c a b) e st=(match c.ev e with
  | .bool t=>some (.val (if t then a.ev e else b.ev e) st)
  | _=>none):=rfl
theorem opA_new {z:AV} {mu:Bool} {ty:Option TypeId} {e:Env} {st:St}:opA (.new z mu ty) e st=(if mu then some (.val (.ptr st.length 0) (st++[.cells ty z.cells])) else some (.val (.iptr z) st)):=rfl
theorem opA_boxT {T:TypeId} {m:Nat} {x:AX} {e:Env} {st:St}:opA (.boxT T m x) e st=(
  let v:=x.ev e
  if v.cells.length=m∧v.cells.all AV.isCell=true then some (.val (.ptr st.length 0) (st++[.cells (some T) v.cells])) else none):=rfl
theorem opA_box {m:Nat} {x:AX} {mu:Bool} {e:Env} {st:St}:opA (.box m x mu) e st=(
  let v:=x.ev e
  if v.cells.length=m∧v.cells.all AV.isCell=true then
   (if mu then some (.val (.ptr st.length 0) (st++[.cells none v.cells])) else some (.val (.iptr v) st))
  else none):=rfl
theorem opA_build {zero:List AV} {parts:List (Nat×Nat×AX)} {e:Env} {st:St}:opA (.build zero parts) e st=((fillA zero (parts.map fun (o,s,x)=>(o,s,x.ev e))).map fun cs=>.val (.agg cs) st):=rfl
theorem opA_mkLit {m:Nat} {zero:List AV} {parts:List (Nat×Nat×AX)} {mu:Bool} {e:Env} {st:St}:opA (.mkLit m zero parts mu) e st=((fillA zero (parts.map fun (o,s,x)=>(o,s,x.ev e))).map fun cs =>
   if mu then .val (.sl st.length m 0 (cs.length / m) (some (cs.length / m))) (st++[.cells none cs])
   else .val (.lst m (group m (m != 1) (cs.length / m) cs) .tight) st):=rfl
theorem opA_load {m:Nat} {agg:Bool} {a:AX} {e:Env} {st:St}:opA (.load m agg a) e st=(match a.ev e with
  | .iptr v=>if agg then (match v with
    | .agg cs=>if cs.length=m then some (.val v st) else none
    | _=>none) else (if v.isCell then some (.val v st) else none)
  | .ptr r off=>match st[r]? with
   | some (.cells ty cs)=>(takeVar m agg cs off).map fun v=>.val v st
   | _=>none
  | _=>none):=rfl
theorem opA_store {m:Nat} {a:AX} {x:AX} {e:Env} {st:St}:opA (.store m a x) e st=(match a.ev e with
  | .ptr r off=>match st[r]? with
   | some (.cells ty cs) =>
    let vs:=(x.ev e).cells
    if vs.length=m∧off+m≤cs.length∧vs.all AV.isCell=true then some (.val .undef (st.set r (.cells ty (putCells cs off vs)))) else none
   | _=>none
  | _=>none):=rfl
theorem opA_nilCheck {x:AX} {e:Env} {st:St}:opA (.nilCheck x) e st=(match x.ev e with
  | .ptr r o=>some (.val (.ptr r o) st)
  | .iptr v=>some (.val (.iptr v) st)
  | .func fn a b=>some (.val (.func fn a b) st)
  | _=>none):=rfl
theorem opA_bin {op:BinOp} {x:AX} {y:AX} {e:Env} {st:St}:opA (.bin op x y) e st=((binA op (x.ev e) (y.ev e)).map fun v=>.val v st):=rfl
theorem opA_eqBool {neg:Bool} {x:AX} {y:AX} {e:Env} {st:St}:opA (.eqBool neg x y) e st=(match x.ev e,y.ev e with
  | .bool a,.bool b=>some (.val (.bool (if neg then !(a == b) else a == b)) st)
  | _,_=>none):=rfl
theorem opA_eqAgg {ks:List Nat} {neg:Bool} {x:AX} {y:AX} {e:Env} {st:St}:opA (.eqAgg ks neg x y) e st=(match x.ev e,y.ev e with
  | .agg a,.agg b=>(eqCells ks a b).map fun t=>.val (.bool (if neg then !t else t)) st
  | _,_=>none):=rfl
theorem opA_eqPtr {neg:Bool} {x:AX} {y:AX} {e:Env} {st:St}:opA (.eqPtr neg x y) e st=(match x.ev e,y.ev e with
  | .nilPtr,.nilPtr=>some (.val (.bool (!neg)) st)
  | .nilPtr,.ptr _ _=>some (.val (.bool neg) st)
  | .ptr _ _,.nilPtr=>some (.val (.bool neg) st)
  | .nilPtr,.iptr _=>some (.val (.bool neg) st)
  | .iptr _,.nilPtr=>some (.val (.bool neg) st)
  | _,_=>none):=rfl
theorem opA_eqIface {neg:Bool} {x:AX} {y:AX} {e:Env} {st:St}:opA (.eqIface neg x y) e st=(match x.ev e,y.ev e with
  | .nilIface,.nilIface=>some (.val (.bool (!neg)) st)
  | .nilIface,.iface _ _=>some (.val (.bool neg) st)
  | .iface _ _,.nilIface=>some (.val (.bool neg) st)
  | _,_=>none):=rfl
theorem opA_un {op:UnOp} {x:AX} {e:Env} {st:St}:opA (.un op x) e st=((unA op (x.ev e)).map fun v=>.val v st):=rfl
theorem opA_convInt {k:IntKind} {x:AX} {e:Env} {st:St}:opA (.convInt k x) e st=(match x.ev e with
  | .int _ n=>some (.val (.int k (k.wrap n)) st)
  | _=>none):=rfl
theorem opA_convSame {x:AX} {e:Env} {st:St}:opA (.convSame x) e st=(match x.ev e with
  | .str s=>some (.val (.str s) st)
  | _=>none):=rfl
theorem opA_convBytes {mu:Bool} {x:AX} {e:Env} {st:St}:opA (.convBytes mu x) e st=(match x.ev e with
  | .str s=>if mu then some (.val (.sl st.length 1 0 s.length none) (st++[.cells none (s.map byteV)])) else some (.val (.lst 1 (s.map byteV) .no) st)
  | _=>none):=rfl
theorem opA_convStr {x:AX} {e:Env} {st:St}:opA (.convStr x) e st=(match x.ev e with
  | .lst m es _=>if m=1 then (ofBytes es).map fun s=>.val (.str s) st else none
  | .sl r m off n _=>match st[r]? with
   | some (.cells ty cs)=>if m=1∧off+n≤cs.length then (ofBytes ((cs.drop off).take n)).map fun s=>.val (.str s) st else none
   | _=>none
  | _=>none):=rfl
theorem opA_mkIface {t:TypeId} {x:AX} {e:Env} {st:St}:opA (.mkIface t x) e st=(some (.val (.iface t (x.ev e)) st)):=rfl
theorem opA_mkFunc {f:FuncId} {first:List AX} {cap:List AX} {e:Env} {st:St}:opA (.mkFunc f first cap) e st=(some (.val (.func (.func f) (first.map (AX.ev e)) (cap.map (AX.ev e))) st)):=rfl
theorem opA_mkMap  {e:Env} {st:St}:opA (.mkMap ) e st=(some (.val (.map st.length) (st++[.map []]))):=rfl
theorem opA_mkSlice {m:Nat} {bytes:Nat} {zero:List AV} {l:AX} {c:AX} {tok:Bool} {e:Env} {st:St}:opA (.mkSlice m bytes zero l c tok) e st=(match aInt (l.ev e),aInt (c.ev e) with
  | some l,some c =>
   if 0≤l∧l≤c∧c≤(great:Int)∧bytes≤1024∧m=zero.length then
    (if tok then (if l = 0 then some (.val (.lst m [] (.tok st.length)) (st ++ [.tok m 0 none])) else none)
     else if l=c then some (.val (.sl st.length m 0 l.toNat (some l.toNat)) (st++[.cells none ((List.replicate l.toNat zero).flatten)])) else none)
   else none
  | _,_=>none):=rfl
theorem opA_sliceStr {x:AX} {lo:Option AX} {hi:Option AX} {e:Env} {st:St}:opA (.sliceStr x lo hi) e st=(match x.ev e with
  | .str s=>(bound (hi.map (AX.ev e)) s.length s.length).bind fun h=>(bound (lo.map (AX.ev e)) 0 h).map fun l=>.val (.str ((s.take h).drop l)) st
  | _=>none):=rfl
theorem opA_sliceLst {m:Nat} {x:AX} {lo:Option AX} {hi:Option AX} {max:Option AX} {e:Env} {st:St}:opA (.sliceLst m x lo hi max) e st=(match x.ev e with
  | .lst m' es ap =>
   if m'=m∨es=[] then
    match max with
    | some mx =>
     (bound (some (mx.ev e)) 0 es.length).bind fun c=>(bound (hi.map (AX.ev e)) 0 c).bind fun h=>(bound (lo.map (AX.ev e)) 0 h).bind fun l =>
      if hi.isSome then some (.val (.lst m ((es.take h).drop l) (if h=c then .tight else .no)) st) else none
    | none =>
     (bound (hi.map (AX.ev e)) es.length es.length).bind fun h=>(bound (lo.map (AX.ev e)) 0 h).map fun l =>
      .val (.lst m ((es.take h).drop l) (if h=es.length∧ap=.tight then .tight else .no)) st
   else none
  | .sl r m' off n cap =>
   if m'=m∧max.isNone then
    match cap with
    | some c=>(bound (hi.map (AX.ev e)) n c).bind fun h=>(bound (lo.map (AX.ev e)) 0 h).bind fun l =>
      if l<c then some (.val (.sl r m (off+l * m) (h-l) (some (c-l))) st)
      else some (.val (.lst m [] .tight) st)
    | none=>(bound (hi.map (AX.ev e)) n n).bind fun h=>(bound (lo.map (AX.ev e)) 0 h).bind fun l =>
      if l<n then some (.val (.sl r m (off+l * m) (h-l) none) st)
      else some (.val (.lst m [] .no) st)
   else none
  | _=>none):=rfl
theorem opA_sliceArr {n:Nat} {m:Nat} {x:AX} {lo:Option AX} {hi:Option AX} {e:Env} {st:St}:opA (.sliceArr n m x lo hi) e st=(match x.ev e with
  | .ptr r off=>match st[r]? with
   | some (.cells _ cs)=>if off+n * m≤cs.length then (bound (hi.map (AX.ev e)) n n).bind fun h=>(bound (lo.map (AX.ev e)) 0 h).bind fun l =>
     if l<n then some (.val (.sl r m (off+l * m) (h-l) (some (n-l))) st)
     else some (.val (.lst m [] .tight) st) else none
   | _=>none
  | _=>none):=rfl
theorem opA_fieldAddr {off:Nat} {size:Nat} {agg:Bool} {x:AX} {e:Env} {st:St}:opA (.fieldAddr off size agg x) e st=(match x.ev e with
  | .ptr r o=>some (.val (.ptr r (o+off)) st)
  | .iptr (.agg cs)=>(takeVar size agg cs off).map fun v=>.val (.iptr v) st
  | _=>none):=rfl
theorem opA_field {off:Nat} {size:Nat} {agg:Bool} {x:AX} {e:Env} {st:St}:opA (.field off size agg x) e st=(match x.ev e with
  | .agg cs=>(takeVar size agg cs off).map fun v=>.val v st
  | _=>none):=rfl
theorem opA_indexAddr {m:Nat} {agg:Bool} {arr:Option Nat} {x:AX} {i:AX} {e:Env} {st:St}:opA (.indexAddr m agg arr x i) e st=(match aInt (i.ev e) with
  | none=>none
  | some i=>if i<0 then none else
   match arr,x.ev e with
   | some n,.ptr r off=>if i<(n:Int) then some (.val (.ptr r (off+i.toNat * m)) st) else none
   | some n,.iptr (.agg cs)=>if i<(n:Int) then (takeVar m agg cs (i.toNat * m)).map fun v=>.val (.iptr v) st else none
   | none,.lst m' es _=>if m'=m then (es[i.toNat]?).map fun v=>.val (.iptr v) st else none
   | none,.sl r m' off n _=>if m'=m∧i<(n:Int) then some (.val (.ptr r (off+i.toNat * m)) st) else none
   | _,_=>none):=rfl
theorem opA_indexStr {x:AX} {i:AX} {e:Env} {st:St}:opA (.indexStr x i) e st=(match x.ev e,aInt (i.ev e) with
  | .str s,some i=>if i<0 then none else (s[i.toNat]?).map fun b=>.val (byteV b) st
  | _,_=>none):=rfl
theorem opA_indexArr {n:Nat} {m:Nat} {agg:Bool} {x:AX} {i:AX} {e:Env} {st:St}:opA (.indexArr n m agg x i) e st=(match x.ev e,aInt (i.ev e) with
  | .agg cs,some i=>if 0≤i∧i<(n:Int) then (takeVar m agg cs (i.toNat * m)).map fun v=>.val v st else none
  | _,_=>none):=rfl
theorem opA_lookup {kd:Nat} {zero:AV} {ok:Bool} {x:AX} {i:AX} {e:Env} {st:St}:opA (.lookup kd zero ok x i) e st=(
  if keyKind (i.ev e)=kd then
   (mapOf st (x.ev e)).bind fun es=>(findKey (i.ev e) es 0).map fun f =>
    let v:=match f with | some (_,v)=>v | none=>zero
    .val (if ok then .tup [v,.bool f.isSome] else v) st
  else none):=rfl
theorem opA_mapUpdate {kd:Nat} {x:AX} {i:AX} {v:AX} {e:Env} {st:St}:opA (.mapUpdate kd x i v) e st=(match x.ev e with
  | .map r=>match st[r]? with
   | some (.map es)=>if keyKind (i.ev e)=kd then (findKey (i.ev e) es 0).bind fun f=>match f with
    | some (j,_)=>some (.val .undef (st.set r (.map (es.set j (i.ev e,v.ev e)))))
    | none=>some (.val .undef (st.set r (.map (es++[(i.ev e,v.ev e)])))) else none
   | _=>none
  | _=>none):=rfl
theorem opA_extract {x:AX} {i:Nat} {e:Env} {st:St}:opA (.extract x i) e st=(match x.ev e with
  | .tup vs=>(vs[i]?).map fun v=>.val v st
  | _=>none):=rfl
theorem opA_assertT {t:TypeId} {zero:AV} {ok:Bool} {x:AX} {e:Env} {st:St}:opA (.assertT t zero ok x) e st=(match x.ev e with
  | .iface u v=>if u=t then some (.val (if ok then .tup [v,.bool true] else v) st) else (if ok then some (.val (.tup [zero,.bool false]) st) else none)
  | _=>none):=rfl
theorem opA_call {f:AX} {args:List AX} {e:Env} {st:St}:opA (.call f args) e st=(match f.ev e with
  | .func (.func g) first cap=>some (.call g (first++args.map (AX.ev e)++cap))
  | .func (.yield r) [] []=>some (.round r (args.map (AX.ev e)))
  | _=>none):=rfl
theorem opA_lenStr {x:AX} {e:Env} {st:St}:opA (.lenStr x) e st=(match x.ev e with
  | .str s=>some (.val (.int .i64 s.length) st)
  | _=>none):=rfl
theorem opA_lenSl {x:AX} {e:Env} {st:St}:opA (.lenSl x) e st=(match (x.ev e).asLst 1 with
  | .lst _ es _=>some (.val (.int .i64 es.length) st)
  | .sl _ _ _ n _=>some (.val (.int .i64 n) st)
  | _=>none):=rfl
theorem opA_lenMap {x:AX} {e:Env} {st:St}:opA (.lenMap x) e st=((mapOf st (x.ev e)).map fun es=>.val (.int .i64 es.length) st):=rfl
theorem opA_lenArr {n:Nat} {e:Env} {st:St}:opA (.lenArr n) e st=(some (.val (.int .i64 n) st)):=rfl
theorem opA_copy {m:Nat} {x:AX} {y:AX} {e:Env} {st:St}:opA (.copy m x y) e st=(match x.ev e with
  | .sl r m' off n _ =>
   (elemsOf st m (y.ev e)).bind fun ys=>match st[r]? with
    | some (.cells ty cs)=>if m'=m∧off+n * m≤cs.length then
      some (.val (.int .i64 (min ys.length n)) (st.set r (.cells ty (putCells cs off (flat (ys.take n)))))) else none
    | _=>none
  | _=>none):=rfl
theorem opA_minmax {isMax:Bool} {xs:List AX} {e:Env} {st:St}:opA (.minmax isMax xs) e st=(match xs.map (AX.ev e) with
  | []=>none
  | v::vs=>(minmaxA isMax v vs).map fun v=>.val v st):=rfl
theorem opA_panic {x:AX} {e:Env} {st:St}:opA (.panic x) e st=(match x.ev e with
  | .iface t v=>some (.pan (.iface t v))
  | _=>none):=rfl
theorem opA_defer {f:AX} {ys:List AX} {e:Env} {st:St}:opA (.defer f ys) e st=(match f.ev e with
  | .func (.func g) first cap=>some (.defer (.call g (first++ys.map (AX.ev e)++cap)))
  | _=>none):=rfl
theorem opA_valloc {m:Nat} {e:Env} {st:St}:opA (.valloc m) e st=some (.val .any st):=rfl
theorem opA_vbox {m d:Nat} {x:AX} {e:Env} {st:St}:opA (.vbox m d x) e st=(match AX.ev e (.t d) with
  | .any=>if (x.ev e).cells.length=m∧(x.ev e).cells.all AV.isCell=true then some (.val (.iptr (x.ev e)) st) else none
  | _=>none):=rfl
attribute [simp] opA_defer opA_valloc opA_vbox
attribute [simp] opA_append opA_appendM opA_mov opA_movT opA_pick opA_new opA_box opA_build opA_mkLit opA_load opA_store opA_nilCheck opA_bin opA_eqBool opA_eqAgg opA_eqPtr opA_eqIface opA_un opA_convInt opA_convSame opA_convBytes opA_convStr opA_mkIface opA_mkFunc opA_mkMap opA_mkSlice opA_sliceStr opA_sliceLst opA_sliceArr opA_fieldAddr opA_field opA_indexAddr opA_indexStr opA_indexArr opA_lookup opA_mapUpdate opA_extract opA_assertT opA_call opA_lenStr opA_lenSl opA_lenMap opA_lenArr opA_copy opA_minmax opA_panic
attribute [simp] doSteps exec doOps doOp setDst ev_k set_len putCells takeVar aInt ev_set_self ev_set_neb sq_nrm sq_ret sq_exit sq_pan blk_nrm blk_ret blk_exit blk_pan
end Go.Proofs.YtgkhmmlemgikjaaGreatDoor.Ai
namespace Go.Proofs.YtgkhmmlemgikjaaGreatDoor.Ai
open Go
section
variable {P:Program} {n:Nat} {t:TypeId} {a:AV}
theorem ofType_str (hu:P.underlying t=some .string) (h:OfType P (n+1) t a):∃s,a=.str s∧s.length≤maxLen:=by
 simp only [OfType,hu] at h;exact h
end
section
variable {P:Program} {gl:List (Nat×AV)} {A:AProg} {B:World→Prop} {H:Type} {enc:TypeId×Value→H} {W:World}
theorem contract_of (hmix:P.follows .mixedOrders=true) (hA:∀f F,A.fn f=some F→funcFits P gl f F=true) (hprim:PrimsOk P gl A B) (hl:laidOutB P=true)
  {fid:FuncId} {f:Func} {s:ChangeSpec} {tb:TypeId} {args:Array Value} {ds gs:List (DataW H)} {before:List MemPlace} {base:Nat} {apart fresh handsOn again:Bool}
  (ht:(f.params.toList.all fun t=>P.readableRec t && decide (t<P.types.size))=true) (hok:(f.params.toList.all (okType P 8))=true) (hres:f.resultTypes=#[tb]) (htb:P.underlying tb=some .bool)
  (hv:s.vars=[]) (hs:∀H (ds:List (DataW H)),ds.length=f.params.size→s.fn H ds={ results:=[.lit (.bool true)],args:=ds })
  (hval:∀(j:Nat) t v,f.params[j]?=some t→args[j]?=some v→Value.okWide P W .any base t v)
  (hW:DataW.Whole enc P f.params.toList s.vars apart W args.toList ds gs before) (hG:GlOk gl (J0 W)) (hB:B W) {N:Nat} (hN:Rows.uptoBulkAll ds≤N)
  (hrun:∀avs,ArgsOf P 8 f.params.toList avs→AV.bulks avs≤N→∃st ds,runL A (.seqc fid avs) []=some ⟨.ret,⟨[.bool true],ds⟩,st⟩) :
  Calls P fid args W fun e W'=>∃v,e=.returned v∧s.post enc P f apart fresh handsOn again W args v W':=by
 have hW':=hW
 obtain ⟨p,q,hA0,hV,rfl,hfz,hnd⟩:=hW
 obtain ⟨avs,h1,h2,h3⟩:=args_read (n:=8) _ _ _ _ hok hA0 (fun j t v h h'=>Value.okWide_any_base (hval j t v (by simpa using h) (by simpa using h')))
 obtain ⟨st,dfs,hr⟩:=hrun avs h2 (by omega)
 obtain ⟨k,hr⟩:=runL_some.1 hr
 refine (calls_of_run hmix hA hprim hG hB h1 hr rfl).mono fun e W' ⟨he,hk⟩=>?_
 subst he
 exact ⟨_,rfl,post_true hl ht hres htb hv hs hW' hk⟩
theorem tab_of_laid {name:String} {k:IntKind} {zs:List Int} {g:Nat} {t e:TypeId} {m:Nat} {laid:List (String×DataW Unit)}
  (hf:laid.filter (fun x=>x.1 == name)=[(name,Lib.tabData k zs)]) (hg:P.globalNamed name=some g) (hty:(P.globals[g]?).map (·.type)=some t) (ht:P.underlying t=some (.array m e)) (he:P.underlying e=some (.int k))
  (hce:P.cellsOf e=1) (hct:P.cellsOf t=m) (h:laidMetH P laid W):Lib.TabIs P W name k zs:=by
 have h2:=laidMetH.filter (fun x=>x.1 == name) h
 rw [hf] at h2
 exact Lib.tabIs_of_head (rest:=[]) hg hty ht he hce hct h2
end
def flatD:Nat→DataW Unit→List Value
 | _,.lit l=>[l.value]
 | n+1,.agg ps=>ps.flatMap (flatD n)
 | _,_=>[]
def layIn (P:Program):List (String×DataW Unit)→Array Obj→Array Obj
 | [],h=>h
 | x::l,h=>layIn P l (match P.globalNamed x.1 with
  | some g=>h.modify g fun
   | .cells _ t frozen=>.cells (flatD 4 x.2).toArray t frozen
   | o=>o
  | none=>h)
def laidWorld (P:Program) (laid:List (String×DataW Unit)) (os:Os):World :=
 { World.holding P os ⟨#[],#[],[]⟩ with heap:=layIn P laid (World.holding P os ⟨#[],#[],[]⟩).heap }
end Go.Proofs.YtgkhmmlemgikjaaGreatDoor.Ai
namespace Go.Proofs.YtgkhmmlemgikjaaGreatDoor.Ai
open Go
section
variable {A:AProg} {fn:FuncId} {rnd:Option Nat} {e:Env} {ds:List ADef} {st:St} {Q:PostQ}
def rangeSt (st:St) (fn:FuncId) (site:Nat) (ps:List Nat) (e:Env):St:=st++[.defr (some [])]++[.loop .ready none fn site ps e st.length]
theorem task_of_aw_keep_ex {f:FuncId} {F:AFunc} {args:List AV} {v:AV} {N:Nat} (G:St→Prop) (hp:A.prim f=none) (hf:A.fn f=some F) (hk:F.keep=true) (hN:args.length+(F.ntmps-args.length)=N)
  (h:∀e:Env,e.length=N→(∀i,AX.ev e (.t i)=args.getD i .undef)→∀K:PostQ,
   (∀x e st',(x=.ret∨x=.nrm)→G st'→(∃vs,resultsA st' e F.results=some vs∧oneOf vs=v)→K x e [] st')→AW A f none F.body e [] st K) :
  ∃st',G st'∧runL A (.call f args) st=some ⟨.ret,⟨[v],[]⟩,st'⟩∧runL A (.seqc f args) st=some ⟨.ret,⟨[v],[]⟩,st'⟩:=by
 have hev:∀i,AX.ev (args++List.replicate (F.ntmps-args.length) .undef) (.t i)=args.getD i .undef:=by
  intro i
  simp only [AX.ev,List.getD_eq_getElem?_getD]
  by_cases hi:i<args.length
  ·rw [List.getElem?_append_left hi]
  ·rw [List.getElem?_append_right (by omega),List.getElem?_eq_none (by omega:args.length≤i),List.getElem?_replicate]
   split<;>rfl
 obtain ⟨x,e',ds',st1,hx,h1,h2,h3,vs,h4,h5⟩:=h (args++List.replicate (F.ntmps-args.length) .undef) (by simpa using hN) hev
  (fun x e ds st1=>(x=.ret∨x=.nrm)∧ds=[]∧G st1∧∃vs,resultsA st1 e F.results=some vs∧oneOf vs=v)
  (fun x e st' h1 h2 h3=>⟨h1,rfl,h2,h3⟩)
 subst h2
 refine ⟨st1,h3,?_⟩
 constructor<;>rw [runL_eq]<;>simp only [layer,hp,callFn,hf,hx,runDefs]<;>rcases h1 with rfl | rfl<;>simp only [h4,hk,h5,if_true]
end
theorem set_base {st0 xs:St} {k:Nat} {x:AObj}:(st0++xs).set (st0.length+k) x=st0++xs.set k x:=by
 rw [List.set_append_right _ _ (by omega)];congr 2;omega
theorem set_base0 {st0 xs:St} {x:AObj}:(st0++xs).set st0.length x=st0++xs.set 0 x:=set_base (k:=0)
theorem get_base {st0 xs:St} {k:Nat}:(st0++xs)[st0.length+k]?=xs[k]?:=by
 rw [List.getElem?_append_right (by omega)];congr 1;omega
theorem get_base0 {st0 xs:St}:(st0++xs)[st0.length]?=xs[0]?:=get_base (k:=0)
theorem cells_bool {b}:(AV.bool b).cells=[(AV.bool b)]:=rfl
theorem cells_int {k n}:(AV.int k n).cells=[(AV.int k n)]:=rfl
theorem cells_str {s}:(AV.str s).cells=[(AV.str s)]:=rfl
theorem cells_func {f a b}:(AV.func f a b).cells=[(AV.func f a b)]:=rfl
theorem cells_nilFunc :AV.nilFunc.cells=[AV.nilFunc]:=rfl
theorem cells_iface {t v}:(AV.iface t v).cells=[(AV.iface t v)]:=rfl
theorem cells_nilIface :AV.nilIface.cells=[AV.nilIface]:=rfl
theorem cells_lst {m es ap}:(AV.lst m es ap).cells=[(AV.lst m es ap)]:=rfl
theorem cells_sl {a b c d e}:(AV.sl a b c d e).cells=[(AV.sl a b c d e)]:=rfl
theorem cells_ptr {a b}:(AV.ptr a b).cells=[(AV.ptr a b)]:=rfl
theorem cells_iptr {v}:(AV.iptr v).cells=[(AV.iptr v)]:=rfl
theorem cells_nilPtr :AV.nilPtr.cells=[AV.nilPtr]:=rfl
theorem cells_map {r}:(AV.map r).cells=[(AV.map r)]:=rfl
theorem cells_nilMap :AV.nilMap.cells=[AV.nilMap]:=rfl
theorem cells_nilSl :AV.nilSl.cells=[AV.nilSl]:=rfl
attribute [simp] cells_bool cells_int cells_str cells_func cells_nilFunc cells_iface cells_nilIface cells_lst cells_sl cells_ptr cells_iptr cells_nilPtr cells_map cells_nilMap cells_nilSl
theorem res_cell {st:St} {e:Env} {i m:Nat} {agg:Bool}:resA st e (.cell i m agg)=(match AX.ev e (.t i) with
  | .ptr r off=>match st[r]? with
   | some (.cells _ cs)=>takeVar m agg cs off
   | _=>none
  | .iptr v=>readStill m agg v
  | _=>none):=rfl
attribute [simp] res_cell
theorem beq_int {k l:IntKind} {a b:Int}:AV.beq (.int k a) (.int l b)=(k == l && a == b):=rfl
theorem beq_bool {a b:Bool}:AV.beq (.bool a) (.bool b)=(a == b):=rfl
theorem beq_str {a b:List UInt8}:AV.beq (.str a) (.str b)=(a == b):=rfl
theorem getD_ev {e:Env} {i:Nat}:List.getD e i (AV.tup [])=AX.ev e (.t i):=rfl
attribute [simp] reOk beq_int beq_bool beq_str getD_ev minmaxA rangeSt runDefs
attribute [simp] set_base set_base0 get_base get_base0 fillA group flat
end Go.Proofs.YtgkhmmlemgikjaaGreatDoor.Ai
