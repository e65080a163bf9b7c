/- THE EVALUATOR WITHOUT FUEL: what some fuel gives. No condition. -/
import Derived.Test.YtfkmdajlpnkebaaDoorAi29
namespace Go.Proofs.YtfkmdajlpnkebaaDoor.Ai
open Go

abbrev Ev := Task → St → Option Res

def Le (g g' : Ev) : Prop := ∀ t st r, g t st = some r → g' t st = some r

theorem Le.refl (g : Ev) : Le g g := fun _ _ _ h => h
theorem Le.trans {a b c : Ev} (h : Le a b) (h' : Le b c) : Le a c := fun t st r e => h' t st r (h t st r e)

theorem doOp_le {g g' : Ev} (h : Le g g') {o : AOper} {fr : Fr} {st : St} {r : Res} (e : doOp g o fr st = some r) : doOp g' o fr st = some r := by
  unfold doOp at e ⊢
  cases hw : wantedA o.guard fr.env with
  | none => simp [hw] at e
  | some b =>
    cases b with
    | false => simpa [hw] using e
    | true =>
      simp only [hw] at e ⊢
      cases ho : opA o.op fr.env st with
      | none => simp [ho] at e
      | some nx =>
        cases nx with
        | val v st' => simpa [ho] using e
        | pan v => simpa [ho] using e
        | defer d => simpa [ho] using e
        | call f args =>
          simp only [ho] at e ⊢
          cases hg : g (.call f args) st with
          | none => simp [hg] at e
          | some q => rw [hg] at e; rw [h _ _ _ hg]; exact e
        | round f args =>
          simp only [ho] at e ⊢
          cases hg : g (.round f args) st with
          | none => simp [hg] at e
          | some q => rw [hg] at e; rw [h _ _ _ hg]; exact e

theorem doOps_le {g g' : Ev} (h : Le g g') : ∀ (os : List AOper) (fr : Fr) (st : St) (r : Res), doOps g os fr st = some r → doOps g' os fr st = some r
  | [], fr, st, r, e => e
  | o :: os, fr, st, r, e => by
    simp only [doOps] at e ⊢
    cases hd : doOp g o fr st with
    | none => simp [hd] at e
    | some q =>
      rw [hd] at e; rw [doOp_le h hd]
      obtain ⟨x, fr', st'⟩ := q
      cases x <;> first | exact doOps_le h os _ _ _ e | exact e

theorem doSteps_le {g g' : Ev} (h : Le g g') (all : List AStep) : ∀ (ss : List AStep) (fr : Fr) (st : St) (r : Res), doSteps g all ss fr st = some r → doSteps g' all ss fr st = some r
  | [], fr, st, r, e => e
  | s :: ss, fr, st, r, e => by
    simp only [doSteps] at e ⊢
    cases hd : doOp g s.o fr st with
    | none => simp [hd] at e
    | some q =>
      rw [hd] at e; rw [doOp_le h hd]
      obtain ⟨x, fr', st'⟩ := q
      cases x with
      | nrm =>
        simp only at e ⊢
        split at e
        · rename_i hr; rw [if_pos hr]; exact doSteps_le h all ss _ _ _ e
        · cases e
      | _ => exact e

theorem exec_le {g g' : Ev} (h : Le g g') {fn : FuncId} {rnd : Option Nat} : ∀ (c : ACode) (fr : Fr) (st : St) (r : Res), exec g fn rnd c fr st = some r → exec g' fn rnd c fr st = some r
  | .skip, fr, st, r, e => e
  | .reg ops, fr, st, r, e => doOps_le h ops fr st r e
  | .plan ss, fr, st, r, e => doSteps_le h ss ss fr st r e
  | .seq a b, fr, st, r, e => by
    simp only [exec] at e ⊢
    cases hd : exec g fn rnd a fr st with
    | none => simp [hd] at e
    | some q =>
      rw [hd] at e; rw [exec_le h a _ _ _ hd]
      obtain ⟨x, fr', st'⟩ := q
      cases x <;> first | exact exec_le h b _ _ _ e | exact e
  | .cond c a b, fr, st, r, e => by
    simp only [exec] at e ⊢
    cases hc : c.ev fr.env <;> simp only [hc] at e ⊢ <;> try (cases e; done)
    split at e
    · rename_i ht; rw [if_pos ht]; exact exec_le h a _ _ _ e
    · rename_i ht; rw [if_neg ht]; exact exec_le h b _ _ _ e
  | .block id a, fr, st, r, e => by
    simp only [exec] at e ⊢
    cases hd : exec g fn rnd a fr st with
    | none => simp [hd] at e
    | some q => rw [hd] at e; rw [exec_le h a _ _ _ hd]; exact e
  | .loop a, fr, st, r, e => h _ _ _ e
  | .exit id, fr, st, r, e => e
  | .ret, fr, st, r, e => e
  | .rangeFunc f ps site, fr, st, r, e => by
    simp only [exec] at e ⊢
    cases hf : f.ev fr.env with
    | func fnn first cap =>
      simp only [hf] at e ⊢
      cases fnn with
      | func hh =>
        simp only at e ⊢
        cases hs : rangeStart rnd st with
        | none => simp [hs] at e
        | some q =>
          obtain ⟨d, mark, st1⟩ := q
          simp only [hs] at e ⊢
          revert e
          generalize hT : g _ _ = res
          intro e
          cases res with
          | none => simp [rangeEnd] at e
          | some q => rw [h _ _ _ hT]; exact e
      | _ => simp at e
    | _ => simp [hf] at e

theorem callFn_le {A : AProg} {g g' : Ev} (h : Le g g') {f : FuncId} {args : List AV} {st : St} {r : Res} (e : callFn A g f args st = some r) : callFn A g' f args st = some r := by
  unfold callFn at e ⊢
  cases hF : A.fn f with
  | none => simp [hF] at e
  | some F =>
    simp only [hF] at e ⊢
    revert e
    generalize hx : exec g f none F.body _ st = res
    intro e
    cases res with
    | none => simp at e
    | some q => rw [exec_le h _ _ _ _ hx]; exact e

theorem roundEnd_none {r : Nat} : roundEnd r none = none := rfl

theorem roundFn_le {A : AProg} {g g' : Ev} (h : Le g g') {q : Nat} {args : List AV} {st : St} {r : Res} (e : roundFn A g q args st = some r) : roundFn A g' q args st = some r := by
  unfold roundFn at e ⊢
  split at e
  · rename_i f site ps env d hst
    cases hF : A.fn f with
    | none => simp [hF] at e
    | some F =>
      simp only [hF] at e ⊢
      cases hs : F.sites[site]? with
      | none => simp [hs] at e
      | some ab =>
        obtain ⟨asg, body⟩ := ab
        simp only [hs] at e ⊢
        split at e
        · rename_i hl
          rw [if_pos hl]
          revert e
          generalize hx : exec g f (some q) asg _ st = res
          intro e
          cases res with
          | none => simp at e
          | some z =>
            rw [exec_le h _ _ _ _ hx]
            obtain ⟨x, fr, st1⟩ := z
            cases x with
            | nrm =>
              simp only at e ⊢
              split at e
              · rename_i p1 f1 s1 ps1 e1 d1 h1
                revert e
                generalize hy : exec g f (some q) body fr _ = res2
                intro e
                cases res2 with
                | none => rw [roundEnd_none] at e; cases e
                | some z2 => rw [exec_le h _ _ _ _ hy]; exact e
              · cases e
            | _ => simp at e
        · cases e
  · cases e

theorem layer_le {A : AProg} {g g' : Ev} (h : Le g g') : Le (layer A g) (layer A g') := by
  intro t st r e
  cases t with
  | call f args =>
    simp only [layer] at e ⊢
    cases hp : A.prim f with
    | some hh => simpa [hp] using e
    | none => simp only [hp] at e ⊢; exact callFn_le h e
  | seqc f args =>
    simp only [layer] at e ⊢
    cases hp : A.prim f with
    | some hh => simp [hp] at e
    | none => simp only [hp] at e ⊢; exact callFn_le h e
  | round q args => exact roundFn_le h e
  | loop f rnd body fr =>
    simp only [layer] at e ⊢
    cases hx : exec g f rnd body fr st with
    | none => simp [hx] at e
    | some q =>
      rw [hx] at e; rw [exec_le h _ _ _ _ hx]
      obtain ⟨x, fr', st'⟩ := q
      cases x <;> first | exact h _ _ _ e | exact e

theorem runA_le (A : AProg) : ∀ n, Le (runA A n) (runA A (n + 1))
  | 0 => fun _ _ _ e => by cases e
  | n + 1 => layer_le (runA_le A n)

theorem runA_mono (A : AProg) {n m : Nat} (h : n ≤ m) : Le (runA A n) (runA A m) := by
  induction h with
  | refl => exact Le.refl _
  | step _ ih => exact ih.trans (runA_le A _)
end Go.Proofs.YtfkmdajlpnkebaaDoor.Ai
