/- SYMBOLIC RUNS BY simp ALONE: one step at a time; what isn't reached is not looked at. A goal 'AW ..' is run by 'simp [the code's name, the slots' facts]' up to the next loop. No condition. -/
import Derived.Test.YtfkmdajlpnkebaaDoorAi35
namespace Go.Proofs.YtfkmdajlpnkebaaDoor.Ai
open Go

section
variable {A : AProg} {fn : FuncId} {rnd : Option Nat} {e : Env} {ds : List ADef} {st : St} {Q : PostQ}
/-! For simp: one step at a time; what isn't reached is not looked at. -/
def CondA (A : AProg) (fn : FuncId) (rnd : Option Nat) (a b : ACode) (e : Env) (ds : List ADef) (st : St) (Q : PostQ) : AV → Prop
  | .bool t => if t = true then AW A fn rnd a e ds st Q else AW A fn rnd b e ds st Q
  | _ => False
theorem conda_true {a b} : CondA A fn rnd a b e ds st Q (.bool true) ↔ AW A fn rnd a e ds st Q := by simp [CondA]
theorem conda_false {a b} : CondA A fn rnd a b e ds st Q (.bool false) ↔ AW A fn rnd b e ds st Q := by simp [CondA]
theorem aw_condA {c a b} : AW A fn rnd (.cond c a b) e ds st Q ↔ CondA A fn rnd a b e ds st Q (c.ev e) := by
  unfold AW CondA
  simp only [exec]
  cases hc : c.ev e <;> simp
  rename_i t
  cases t <;> simp [AW]
def CallA (A : AProg) (d : Option Nat) (os : List AOper) (e : Env) (ds : List ADef) (Q : PostQ) : Option Res → Prop
  | some ⟨.ret, ⟨[v], _⟩, st'⟩ => AWo A os (setDst d e v) ds st' Q
  | some ⟨.pan v, _, st'⟩ => Q (.pan v) e ds st'
  | _ => False
theorem calla_ret {d os v ds' st'} : CallA A d os e ds Q (some ⟨.ret, ⟨[v], ds'⟩, st'⟩) ↔ AWo A os (setDst d e v) ds st' Q := Iff.rfl
theorem calla_pan {d os v fr' st'} : CallA A d os e ds Q (some ⟨.pan v, fr', st'⟩) ↔ Q (.pan v) e ds st' := Iff.rfl
def NxA (A : AProg) (d : Option Nat) (os : List AOper) (e : Env) (ds : List ADef) (st : St) (Q : PostQ) : Option Nx → Prop
  | some (.val v st') => AWo A os (setDst d e v) ds st' Q
  | some (.pan v) => Q (.pan v) e ds st
  | some (.call f args) => CallA A d os e ds Q (runL A (.call f args) st)
  | some (.round r args) => CallA A d os e ds Q (runL A (.round r args) st)
  | some (.defer x) => AWo A os (setDst d e .undef) (x :: ds) st Q
  | none => False
theorem nxa_val {d os v st'} : NxA A d os e ds st Q (some (.val v st')) ↔ AWo A os (setDst d e v) ds st' Q := Iff.rfl
theorem nxa_pan {d os v} : NxA A d os e ds st Q (some (.pan v)) ↔ Q (.pan v) e ds st := Iff.rfl
theorem nxa_call {d os f args} : NxA A d os e ds st Q (some (.call f args)) ↔ CallA A d os e ds Q (runL A (.call f args) st) := Iff.rfl
theorem nxa_round {d os r args} : NxA A d os e ds st Q (some (.round r args)) ↔ CallA A d os e ds Q (runL A (.round r args) st) := Iff.rfl
def GrdA (A : AProg) (d : Option Nat) (op : AOp) (os : List AOper) (e : Env) (ds : List ADef) (st : St) (Q : PostQ) : Option Bool → Prop
  | some true => NxA A d os e ds st Q (opA op e st)
  | some false => AWo A os (setDst d e .undef) ds st Q
  | none => False
theorem grda_true {d op os} : GrdA A d op os e ds st Q (some true) ↔ NxA A d os e ds st Q (opA op e st) := Iff.rfl
theorem grda_false {d op os} : GrdA A d op os e ds st Q (some false) ↔ AWo A os (setDst d e .undef) ds st Q := Iff.rfl
theorem ao_doOp {o : AOper} {os : List AOper} : AWo A (o :: os) e ds st Q ↔ (match doOp (runL A) o ⟨e, ds⟩ st with
    | some ⟨.nrm, ⟨e1, d1⟩, st1⟩ => AWo A os e1 d1 st1 Q
    | some ⟨x, ⟨e1, d1⟩, st1⟩ => Q x e1 d1 st1
    | none => False) := by
  unfold AWo
  simp only [doOps]
  cases hd : doOp (runL A) o ⟨e, ds⟩ st with
  | none => simp
  | some r =>
    obtain ⟨x, ⟨e1, d1⟩, st1⟩ := r
    cases x with
    | nrm => simp
    | _ =>
      simp only
      constructor
      · rintro ⟨x, e', ds', st', h, hq⟩; cases h; exact hq
      · intro h; exact ⟨_, _, _, _, rfl, h⟩
theorem ao_consA {d op g} {os : List AOper} : AWo A (⟨d, op, g⟩ :: os) e ds st Q ↔ GrdA A d op os e ds st Q (wantedA g e) := by
  rw [ao_doOp]
  unfold GrdA
  simp only [doOp]
  cases hw : wantedA g e with
  | none => simp
  | some b =>
    cases b with
    | false => simp
    | true =>
      simp only
      unfold NxA
      cases ho : opA op e st with
      | none => simp
      | some nx =>
        cases nx with
        | val v st' => simp
        | pan v => simp
        | defer _ => simp
        | call f args =>
          simp only
          unfold CallA
          cases runL A (.call f args) st with
          | none => simp
          | some r =>
            obtain ⟨x, ⟨env, dd⟩, st'⟩ := r
            cases x with
            | ret =>
              cases env with
              | nil => simp
              | cons v env => cases env <;> simp
            | _ => simp
        | round f args =>
          simp only
          unfold CallA
          cases runL A (.round f args) st with
          | none => simp
          | some r =>
            obtain ⟨x, ⟨env, dd⟩, st'⟩ := r
            cases x with
            | ret =>
              cases env with
              | nil => simp
              | cons v env => cases env <;> simp
            | _ => simp
/-- Steps of a region whose order is open. -/
def AWs (A : AProg) (all ss : List AStep) (e : Env) (ds : List ADef) (st : St) (Q : PostQ) : Prop :=
  ∃ x e' ds' st', doSteps (runL A) all ss ⟨e, ds⟩ st = some ⟨x, ⟨e', ds'⟩, st'⟩ ∧ Q x e' ds' st'
def ReA (A : AProg) (all ss : List AStep) (e : Env) (ds : List ADef) (st : St) (Q : PostQ) : Bool → Prop
  | true => AWs A all ss e ds st Q
  | false => False
theorem rea_true {all ss} : ReA A all ss e ds st Q true ↔ AWs A all ss e ds st Q := Iff.rfl
/-- Behind one step's operation. -/
def StepQ (A : AProg) (all : List AStep) (re : List Nat) (ss : List AStep) (Q : PostQ) : PostQ := fun x e ds st => match x with
  | .nrm => ReA A all ss e ds st Q (reAll all re ⟨e, ds⟩ st)
  | x => Q x e ds st
theorem stq_nrm {all re ss} : StepQ A all re ss Q .nrm e ds st ↔ ReA A all ss e ds st Q (reAll all re ⟨e, ds⟩ st) := Iff.rfl
theorem stq_pan {all re ss v} : StepQ A all re ss Q (.pan v) e ds st ↔ Q (.pan v) e ds st := Iff.rfl
theorem aw_planA {ss} : AW A fn rnd (.plan ss) e ds st Q ↔ AWs A ss ss e ds st Q := Iff.rfl
theorem as_nil {all} : AWs A all [] e ds st Q ↔ Q .nrm e ds st := by
  constructor
  · rintro ⟨x, e', ds', st', h, hq⟩; cases h; exact hq
  · intro h; exact ⟨_, _, _, _, rfl, h⟩
theorem as_cons {all ss i o re} : AWs A all (⟨i, o, re⟩ :: ss) e ds st Q ↔ AWo A [o] e ds st (StepQ A all re ss Q) := by
  rw [ao_doOp]
  unfold AWs
  simp only [doSteps]
  cases hd : doOp (runL A) o ⟨e, ds⟩ st with
  | none => simp
  | some r =>
    obtain ⟨x, ⟨e1, d1⟩, st1⟩ := r
    cases x with
    | nrm =>
      simp only [ao_nil, stq_nrm]
      cases reAll all re ⟨e1, d1⟩ st1 <;> simp [ReA, AWs]
    | _ =>
      simp only [StepQ]
      constructor
      · rintro ⟨x, e', ds', st', h, hq⟩; cases h; exact hq
      · intro h; exact ⟨_, _, _, _, rfl, h⟩
end
attribute [simp] conda_true conda_false aw_condA calla_ret calla_pan nxa_val nxa_pan nxa_call nxa_round grda_true grda_false ao_consA ao_nil aw_reg aw_planA as_nil as_cons stq_nrm stq_pan rea_true aw_seq aw_block aw_skip aw_exit aw_ret
end Go.Proofs.YtfkmdajlpnkebaaDoor.Ai
