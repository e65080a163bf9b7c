/- THE EVALUATOR WITHOUT FUEL: it unfolds. No condition. -/
import Derived.Test.YtfkmdajlpnkebaaDoorAi30
namespace Go.Proofs.YtfkmdajlpnkebaaDoor.Ai
open Go

open Classical in
noncomputable def runL (A : AProg) : Ev := fun t st => if h : ∃ r n, runA A n t st = some r then some h.choose else none

theorem runL_some {A : AProg} {t : Task} {st : St} {r : Res} : runL A t st = some r ↔ ∃ n, runA A n t st = some r := by
  unfold runL
  constructor
  · intro h
    split at h
    · rename_i hh
      cases h
      exact hh.choose_spec
    · cases h
  · rintro ⟨n, hn⟩
    have hh : ∃ r n, runA A n t st = some r := ⟨r, n, hn⟩
    rw [dif_pos hh]
    obtain ⟨m, hm⟩ := hh.choose_spec
    have h1 := runA_mono A (Nat.le_max_left n m) t st r hn
    have h2 := runA_mono A (Nat.le_max_right n m) t st _ hm
    rw [h1] at h2
    exact h2.symm

theorem runA_runL (A : AProg) (n : Nat) : Le (runA A n) (runL A) := fun _ _ _ h => runL_some.2 ⟨n, h⟩

section
variable {A : AProg}

theorem doOp_cpt {o : AOper} {fr : Fr} {st : St} {r : Res} (e : doOp (runL A) o fr st = some r) : ∃ n, doOp (runA A n) o fr st = some r := by
  unfold doOp at e ⊢
  cases hw : wantedA o.guard fr.env with
  | none => simp [hw] at e
  | some b =>
    cases b with
    | false => exact ⟨0, by simpa [hw] using e⟩
    | true =>
      simp only [hw] at e ⊢
      cases ho : opA o.op fr.env st with
      | none => simp [ho] at e
      | some nx =>
        cases nx with
        | val v st' => exact ⟨0, by simpa [ho] using e⟩
        | pan v => exact ⟨0, by simpa [ho] using e⟩
        | defer d => exact ⟨0, by simpa [ho] using e⟩
        | call f args =>
          simp only [ho] at e ⊢
          cases hg : runL A (.call f args) st with
          | none => simp [hg] at e
          | some q => obtain ⟨n, hn⟩ := runL_some.1 hg; rw [hg] at e; exact ⟨n, by rw [hn]; exact e⟩
        | round f args =>
          simp only [ho] at e ⊢
          cases hg : runL A (.round f args) st with
          | none => simp [hg] at e
          | some q => obtain ⟨n, hn⟩ := runL_some.1 hg; rw [hg] at e; exact ⟨n, by rw [hn]; exact e⟩

theorem doOps_cpt : ∀ (os : List AOper) (fr : Fr) (st : St) (r : Res), doOps (runL A) os fr st = some r → ∃ n, doOps (runA A n) os fr st = some r
  | [], fr, st, r, e => ⟨0, e⟩
  | o :: os, fr, st, r, e => by
    simp only [doOps] at e ⊢
    cases hd : doOp (runL A) o fr st with
    | none => simp [hd] at e
    | some q =>
      obtain ⟨n1, h1⟩ := doOp_cpt hd
      rw [hd] at e
      obtain ⟨x, fr', st'⟩ := q
      cases x with
      | nrm =>
        obtain ⟨n2, h2⟩ := doOps_cpt os _ _ _ e
        exact ⟨max n1 n2, by rw [doOp_le (runA_mono A (Nat.le_max_left n1 n2)) h1]; exact doOps_le (runA_mono A (Nat.le_max_right n1 n2)) _ _ _ _ h2⟩
      | _ => exact ⟨n1, by rw [h1]; exact e⟩

theorem doSteps_cpt (all : List AStep) : ∀ (ss : List AStep) (fr : Fr) (st : St) (r : Res), doSteps (runL A) all ss fr st = some r → ∃ n, doSteps (runA A n) all ss fr st = some r
  | [], fr, st, r, e => ⟨0, e⟩
  | s :: ss, fr, st, r, e => by
    simp only [doSteps] at e ⊢
    cases hd : doOp (runL A) s.o fr st with
    | none => simp [hd] at e
    | some q =>
      obtain ⟨n1, h1⟩ := doOp_cpt hd
      rw [hd] at e
      obtain ⟨x, fr', st'⟩ := q
      cases x with
      | nrm =>
        simp only at e
        split at e
        · rename_i hr
          obtain ⟨n2, h2⟩ := doSteps_cpt all ss _ _ _ e
          refine ⟨max n1 n2, ?_⟩
          rw [doOp_le (runA_mono A (Nat.le_max_left n1 n2)) h1]
          simp only
          rw [if_pos hr]
          exact doSteps_le (runA_mono A (Nat.le_max_right n1 n2)) _ _ _ _ _ h2
        · cases e
      | _ => exact ⟨n1, by rw [h1]; exact e⟩

theorem exec_cpt {fn : FuncId} {rnd : Option Nat} : ∀ (c : ACode) (fr : Fr) (st : St) (r : Res), exec (runL A) fn rnd c fr st = some r → ∃ n, exec (runA A n) fn rnd c fr st = some r
  | .skip, fr, st, r, e => ⟨0, e⟩
  | .reg ops, fr, st, r, e => doOps_cpt ops fr st r e
  | .plan ss, fr, st, r, e => doSteps_cpt ss ss fr st r e
  | .seq a b, fr, st, r, e => by
    simp only [exec] at e ⊢
    cases hd : exec (runL A) fn rnd a fr st with
    | none => simp [hd] at e
    | some q =>
      obtain ⟨n1, h1⟩ := exec_cpt a _ _ _ hd
      rw [hd] at e
      obtain ⟨x, fr', st'⟩ := q
      cases x with
      | nrm =>
        obtain ⟨n2, h2⟩ := exec_cpt b _ _ _ e
        exact ⟨max n1 n2, by rw [exec_le (runA_mono A (Nat.le_max_left n1 n2)) _ _ _ _ h1]; exact exec_le (runA_mono A (Nat.le_max_right n1 n2)) _ _ _ _ h2⟩
      | _ => exact ⟨n1, by rw [h1]; exact e⟩
  | .cond c a b, fr, st, r, e => by
    simp only [exec] at e ⊢
    cases hc : c.ev fr.env <;> simp only [hc] at e ⊢ <;> try (cases e; done)
    split at e
    · rename_i ht; obtain ⟨n, h⟩ := exec_cpt a _ _ _ e; exact ⟨n, by rw [if_pos ht]; exact h⟩
    · rename_i ht; obtain ⟨n, h⟩ := exec_cpt b _ _ _ e; exact ⟨n, by rw [if_neg ht]; exact h⟩
  | .block id a, fr, st, r, e => by
    simp only [exec] at e ⊢
    cases hd : exec (runL A) fn rnd a fr st with
    | none => simp [hd] at e
    | some q => obtain ⟨n, h⟩ := exec_cpt a _ _ _ hd; rw [hd] at e; exact ⟨n, by rw [h]; exact e⟩
  | .loop a, fr, st, r, e => runL_some.1 e
  | .exit id, fr, st, r, e => ⟨0, e⟩
  | .ret, fr, st, r, e => ⟨0, e⟩
  | .rangeFunc f ps site, fr, st, r, e => by
    simp only [exec] at e ⊢
    cases hf : f.ev fr.env with
    | func fnn first cap =>
      simp only [hf] at e ⊢
      cases fnn with
      | func hh =>
        simp only at e ⊢
        cases hs : rangeStart rnd st with
        | none => simp [hs] at e
        | some q =>
          obtain ⟨d, mark, st1⟩ := q
          simp only [hs] at e ⊢
          cases hT : runL A (.seqc hh (first ++ [.func (.yield st1.length) [] []] ++ cap)) (st1 ++ [.loop .ready none fn site ps fr.env d]) with
          | none => rw [hT] at e; simp [rangeEnd] at e
          | some q => obtain ⟨n, hn⟩ := runL_some.1 hT; rw [hT] at e; exact ⟨n, by rw [hn]; exact e⟩
      | _ => simp at e
    | _ => simp [hf] at e

theorem callFn_cpt {f : FuncId} {args : List AV} {st : St} {r : Res} (e : callFn A (runL A) f args st = some r) : ∃ n, callFn A (runA A n) f args st = some r := by
  unfold callFn at e ⊢
  cases hF : A.fn f with
  | none => simp [hF] at e
  | some F =>
    simp only [hF] at e ⊢
    cases hx : exec (runL A) f none F.body ⟨args ++ List.replicate (F.ntmps - args.length) .undef, []⟩ st with
    | none => simp [hx] at e
    | some q => obtain ⟨n, hn⟩ := exec_cpt _ _ _ _ hx; rw [hx] at e; exact ⟨n, by rw [hn]; exact e⟩

theorem roundFn_cpt {q : Nat} {args : List AV} {st : St} {r : Res} (e : roundFn A (runL A) q args st = some r) : ∃ n, roundFn A (runA A n) q args st = some r := by
  unfold roundFn at e ⊢
  split at e
  · rename_i f site ps env d hst
    cases hF : A.fn f with
    | none => simp [hF] at e
    | some F =>
      simp only [hF] at e ⊢
      cases hs : F.sites[site]? with
      | none => simp [hs] at e
      | some ab =>
        obtain ⟨asg, body⟩ := ab
        simp only [hs] at e ⊢
        split at e
        · rename_i hl
          simp only [if_pos hl]
          revert e
          generalize hx : exec (runL A) f (some q) asg _ st = res
          intro e
          cases res with
          | none => simp at e
          | some z =>
            obtain ⟨n1, h1⟩ := exec_cpt _ _ _ _ hx
            obtain ⟨x, fr, st1⟩ := z
            cases x with
            | nrm =>
              simp only at e
              split at e
              · rename_i p1 f1 s1 ps1 e1 d1 hq
                revert e
                generalize hy : exec (runL A) f (some q) body fr _ = res2
                intro e
                cases res2 with
                | none => rw [roundEnd_none] at e; cases e
                | some z2 =>
                  obtain ⟨n2, h2⟩ := exec_cpt _ _ _ _ hy
                  refine ⟨max n1 n2, ?_⟩
                  rw [exec_le (runA_mono A (Nat.le_max_left n1 n2)) _ _ _ _ h1]
                  simp only [hq]
                  rw [exec_le (runA_mono A (Nat.le_max_right n1 n2)) _ _ _ _ h2]
                  exact e
              · cases e
            | _ => simp at e
        · cases e
  · cases e

theorem layer_cpt {t : Task} {st : St} {r : Res} (e : layer A (runL A) t st = some r) : ∃ n, layer A (runA A n) t st = some r := by
  cases t with
  | call f args =>
    simp only [layer] at e ⊢
    cases hp : A.prim f with
    | some hh => exact ⟨0, by simpa [hp] using e⟩
    | none => simp only [hp] at e ⊢; exact callFn_cpt e
  | seqc f args =>
    simp only [layer] at e ⊢
    cases hp : A.prim f with
    | some hh => simp [hp] at e
    | none => simp only [hp] at e ⊢; exact callFn_cpt e
  | round q args => exact roundFn_cpt e
  | loop f rnd body fr =>
    simp only [layer] at e ⊢
    cases hx : exec (runL A) f rnd body fr st with
    | none => simp [hx] at e
    | some q =>
      obtain ⟨n1, h1⟩ := exec_cpt _ _ _ _ hx
      rw [hx] at e
      obtain ⟨x, fr', st'⟩ := q
      cases x with
      | nrm =>
        obtain ⟨n2, h2⟩ := runL_some.1 e
        exact ⟨max n1 n2, by rw [exec_le (runA_mono A (Nat.le_max_left n1 n2)) _ _ _ _ h1]; exact runA_mono A (Nat.le_max_right n1 n2) _ _ _ h2⟩
      | _ => exact ⟨n1, by rw [h1]; exact e⟩

/-- IT UNFOLDS. -/
theorem runL_eq (t : Task) (st : St) : runL A t st = layer A (runL A) t st := by
  cases h : layer A (runL A) t st with
  | some r =>
    obtain ⟨n, hn⟩ := layer_cpt h
    exact runL_some.2 ⟨n + 1, hn⟩
  | none =>
    cases h2 : runL A t st with
    | none => rfl
    | some r =>
      obtain ⟨n, hn⟩ := runL_some.1 h2
      cases n with
      | zero => cases hn
      | succ n =>
        have := layer_le (A := A) (runA_runL A n) _ _ _ hn
        rw [h] at this; cases this
end
end Go.Proofs.YtfkmdajlpnkebaaDoor.Ai
