/- Code, calls, loops: what each does to a world is what the abstract one tells. No condition. -/
import Derived.Test.YtfkmdajlpnkebaaDoorAi17
namespace Go.Proofs.YtfkmdajlpnkebaaDoor.Ai
open Go

abbrev FW : Fence := Fence.wide

def SitesOf (P : Program) (gl : List (Nat × AV)) (A : AProg) : Sites := fun f site asg body =>
  ∃ F a b, A.fn f = some F ∧ F.sites[site]? = some (a, b) ∧ codeFits P gl F.sites asg a = true ∧ codeFits P gl F.sites body b = true

structure FrRep (J : Inj) (fr : Fr) (a : Act) : Prop where
  env : Reps J fr.env a.tmps.toList
  defs : DefReps J fr.defs a.defers

theorem FrRep.mono {J J' : Inj} (h : J.le J') {fr : Fr} {a : Act} (r : FrRep J fr a) : FrRep J' fr a := ⟨Reps.mono h _ _ r.env, r.defs.mono h⟩

def exitIs (J : Inj) (x : AEx) (env : Env) (e : Exit) (a : Act) : Prop :=
  match x with
  | .nrm => e = .normal ∧ Reps J env a.tmps.toList
  | .exit id => e = .exit id ∧ Reps J env a.tmps.toList
  | .ret => e = .ret ∧ Reps J env a.tmps.toList
  | .pan v => ∃ z, Rep J v z ∧ e = .panic [{ v := z, recovered := false }]

/-- How code is left, as the abstract one is. -/
def Post (K : Sites) (base : World) (J : Inj) (r : Res) (e : Exit) (a : Act) (w : World) : Prop :=
  ∃ J', J.le J' ∧ Sim K base J' r.st w ∧ DefReps J' r.fr.defs a.defers ∧ exitIs J' r.x r.fr.env e a

theorem Post.le {K : Sites} {base : World} {J J' : Inj} (h : J.le J') {r : Res} {e : Exit} {a : Act} {w : World} (p : Post K base J' r e a w) : Post K base J r e a w :=
  let ⟨J2, h1, h2⟩ := p; ⟨J2, h.trans h1, h2⟩

def FenceOk (J : Inj) (F : Fence) : Option Nat → Prop
  | none => F = FW
  | some r => ∃ l, J.ρ r = some l ∧ F = FW.inRound l

theorem FenceOk.mono {J J' : Inj} (h : J.le J') {F : Fence} : ∀ {r : Option Nat}, FenceOk J F r → FenceOk J' F r
  | none, e => e
  | some _, ⟨l, hl, e⟩ => ⟨l, h.ρ _ _ hl, e⟩

theorem FenceOk.fn {J : Inj} {F : Fence} {r : Option Nat} (h : FenceOk J F r) (f : FuncId) : F.fn f := by
  cases r with
  | none => rw [show F = FW from h]; trivial
  | some r => obtain ⟨l, _, rfl⟩ := h; trivial

theorem FenceOk.depth {J : Inj} {F : Fence} {r : Option Nat} (h : FenceOk J F r) : F.depth.isSome = true → 1 ≤ 0 := by
  cases r with
  | none => rw [show F = FW from h]; intro h; cases h
  | some r => obtain ⟨l, _, rfl⟩ := h; intro h; cases h

/-- How a call ends, as the abstract one does. -/
def Ends (K : Sites) (base : World) (J : Inj) (r : Res) (e : Ending) (w : World) : Prop :=
  ∃ J', J.le J' ∧ Sim K base J' r.st w ∧
    (match r.x with
     | .ret => ∃ v z, r.fr.env = [v] ∧ Rep J' v z ∧ e = .returned z
     | .pan v => ∃ z, Rep J' v z ∧ e = .panicked [{ v := z, recovered := false }]
     | _ => False)

def CallDone (P : Program) (f : FuncId) (cargs : Array Value) (w : World) (R : Ending → World → Prop) : Prop :=
  ((callFunc f cargs).run P w = .ok (.enter f cargs) w ∧ CallsIn FW 0 P f cargs w R) ∨ ∃ z w', (callFunc f cargs).run P w = .ok (.value z) w' ∧ R (.returned z) w'

/-- A loop's rounds, from a round's head on. -/
def LoopHead (F : Fence) (P : Program) (c : Code) (Q : Exit → Act → World → Prop) (a : Act) (w : World) : Prop :=
  ∀ (b : Frame) (k : List Item) (cs : List Frame), b.roundOf = F.round → F.fn b.fn → F.room (cs.length + 1 + 0) →
    ∃ e a' w', Q e a' w' ∧ ArrivesIn (Machine.fenced P F) P (lone (b.atR a (.code c :: .inLoop c :: k)) cs w) b k cs e a' w'

theorem wpIn_loopHead {F : Fence} {P : Program} {c : Code} {Q : Exit → Act → World → Prop} {a : Act} {w : World} (h : LoopHead F P c Q a w) : (Code.loop c).wpIn F 0 P Q a w := by
  intro b k cs hro hb hr
  obtain ⟨e, a', w', hq, harr⟩ := h b k cs hro hb hr
  exact ⟨e, a', w', hq, .of_steps (.one (fenced_calm hb hr rfl) stepR_loop) harr⟩

theorem loopHead_round {F : Fence} {P : Program} {c : Code} {Q : Exit → Act → World → Prop} {a : Act} {w : World} (h : c.wpIn F 0 P (Exit.then (LoopHead F P c Q) Q) a w) : LoopHead F P c Q a w := by
  intro b k cs hro hb hr
  obtain ⟨e, a₁, w₁, hq, harr⟩ := h b (.inLoop c :: k) cs hro hb hr
  cases e with
  | normal =>
    obtain ⟨e₂, a₂, w₂, hq₂, harr₂⟩ := hq b k cs hro hb hr
    exact ⟨e₂, a₂, w₂, hq₂, .of_steps (StepsIn.trans harr (.one (fenced_calm hb hr rfl) stepR_inLoop)) harr₂⟩
  | exit id => exact ⟨_, a₁, w₁, hq, .pass (x := .inLoop c) rfl (fun _ _ => .inl (by simp)) harr⟩
  | goto l => exact ⟨_, a₁, w₁, hq, .pass (x := .inLoop c) rfl (fun _ _ => .inl (by simp)) harr⟩
  | ret => exact ⟨_, a₁, w₁, hq, .pass (x := .inLoop c) rfl (fun _ _ => .inl (by simp)) harr⟩
  | panic ch => exact ⟨_, a₁, w₁, hq, .pass (x := .inLoop c) rfl (fun _ _ => .inl (by simp)) harr⟩
  | outgrown => exact ⟨_, a₁, w₁, hq, .pass (x := .inLoop c) rfl (fun _ _ => .inl (by simp)) harr⟩

section
/-- What is known of the globals, and of the world that a call began in. -/
def GOk (B : World → Prop) (gl : List (Nat × AV)) (base : World) (J : Inj) : Prop := GlOk gl J ∧ B base

theorem GOk.mono {B : World → Prop} {gl : List (Nat × AV)} {base : World} {J J' : Inj} (h : GOk B gl base J) (hJ : J.le J') : GOk B gl base J' := ⟨h.1.mono hJ, h.2⟩

variable (P : Program) (gl : List (Nat × AV)) (A : AProg) (B : World → Prop)

/-- What is claimed of a task that is done. -/
def TaskOk : Task → St → Res → Prop
  | .call f args, st, r => ∀ base J w (cargs : Array Value), Sim (SitesOf P gl A) base J st w → GOk B gl base J → Reps J args cargs.toList → CallDone P f cargs w (Ends (SitesOf P gl A) base J r)
  | .seqc f args, st, r => ∀ base J w (cargs : Array Value), Sim (SitesOf P gl A) base J st w → GOk B gl base J → Reps J args cargs.toList →
      (callFunc f cargs).run P w = .ok (.enter f cargs) w ∧ CallsIn FW 0 P f cargs w (Ends (SitesOf P gl A) base J r)
  | .round q args, st, r => ∀ base J w (cargs : Array Value) l, Sim (SitesOf P gl A) base J st w → GOk B gl base J → J.ρ q = some l → Reps J args cargs.toList →
      ∃ f tmps asg body, (Instr.yield l cargs).run P w = .ok (.round l f tmps asg body) w ∧ RoundIn FW 0 P l f tmps asg body w (Ends (SitesOf P gl A) base J r)
  | .loop f rnd body fr, st, r => ∀ F code, A.fn f = some F → codeFits P gl F.sites code body = true → ∀ base J w a G, FenceOk J G rnd → Sim (SitesOf P gl A) base J st w → GOk B gl base J → FrRep J fr a →
      LoopHead G P code (Post (SitesOf P gl A) base J r) a w

variable {P gl A B}

theorem wanted_of {ops : Array Oper} {o : Oper} {ao : AOper} {J : Inj} {e : Env} {a : Act} {b : Bool} (hf : operFits P gl ops o ao = true) (hE : Reps J e a.tmps.toList) (h : wantedA ao.guard e = some b) :
    Region.wanted o (yielded ops a.tmps) = b := by
  simp only [operFits, Bool.and_eq_true] at hf
  obtain ⟨_, hg⟩ := hf
  unfold wantedA at h
  cases hog : o.guard with
  | none =>
    cases hag : ao.guard with
    | none => simp [hag] at h; subst h; simp [Region.wanted, hog]
    | some p => simp [hog, hag] at hg
  | some p =>
    obtain ⟨j, wt⟩ := p
    cases hag : ao.guard with
    | none => simp [hog, hag] at hg
    | some q =>
      obtain ⟨t, wt'⟩ := q
      simp only [hog, hag, Bool.and_eq_true, beq_iff_eq] at hg
      obtain ⟨rfl, hd⟩ := hg
      simp only [hag] at h
      simp only [Region.wanted, hog, yielded, hd, Option.bind_some]
      cases het : e[t]? with
      | none => simp [het] at h
      | some u =>
        obtain ⟨x, hx, hr⟩ := hE.get t u het
        have hx' : a.tmps[t]? = some x := by simpa using hx
        simp only [het] at h
        cases u with
        | bool bb =>
          simp at h; subst h
          simp only [Rep] at hr; subst hr
          simp [hx']
        | tup vs =>
          cases vs with
          | nil =>
            simp at h; subst h
            simp only [Rep] at hr
            obtain ⟨arr, rfl, _⟩ := hr
            simp [hx']
          | cons _ _ => simp at h
        | _ => simp at h

theorem put_rep {J : Inj} {fr : Fr} {a : Act} {d : Option Nat} {v : AV} {x : Value} (h : FrRep J fr a) (hr : Rep J v x) : FrRep J { fr with env := setDst d fr.env v } (a.put d x) := by
  cases d with
  | none => exact h
  | some d =>
    refine ⟨?_, h.defs⟩
    simp only [setDst, Act.put, Array.toList_setIfInBounds]
    exact h.env.set d hr

theorem not_defer {o : Op} {ao : AOp} (hf : opFits P gl o ao = true) (h : ∀ y ys, ao ≠ .defer y ys) : ∀ c, o ≠ .defer c := by
  rintro c rfl
  cases ao <;> simp [opFits, asBuiltin] at hf
  exact h _ _ rfl

variable {g : Task → St → Option Res}

/-- One operation. -/
theorem doOp_ok (G : ∀ t st r, g t st = some r → TaskOk P gl A B t st r) {F : Fence} {rnd : Option Nat} {base : World} {J : Inj} {w : World} {a : Act} {fr : Fr} {st : St} {ops : Array Oper} {o : Oper} {ao : AOper} {r : Res}
    (hF : FenceOk J F rnd) (hS : Sim (SitesOf P gl A) base J st w) (hG : GOk B gl base J) (hR : FrRep J fr a) (hf : operFits P gl ops o ao = true)
    (h : doOp g ao fr st = some r) (next : Act → World → Prop) (Q : Exit → Act → World → Prop)
    (hn : r.x = .nrm → ∀ J' a' w', J.le J' → Sim (SitesOf P gl A) base J' r.st w' → FrRep J' r.fr a' → next a' w')
    (hp : ∀ v, r.x = .pan v → ∀ J' z w', J.le J' → Sim (SitesOf P gl A) base J' r.st w' → DefReps J' r.fr.defs a.defers → Rep J' v z → Q (.panic [{ v := z, recovered := false }]) a w') :
    if Region.wanted o (yielded ops a.tmps) = true then o.wpIn F 0 P a w next Q else next (a.put o.dst Go.undef) w := by
  unfold doOp at h
  have hf' := hf
  simp only [operFits, Bool.and_eq_true, beq_iff_eq] at hf'
  obtain ⟨⟨hdst, hop⟩, _⟩ := hf'
  cases hw : wantedA ao.guard fr.env with
  | none => simp [hw] at h
  | some b =>
    rw [wanted_of hf hR.env hw]
    cases b with
    | false =>
      simp [hw] at h; subst h
      simp only [Bool.false_eq_true, if_false]
      refine hn rfl J _ w (Inj.le.refl J) hS ?_
      rw [hdst]; exact put_rep hR Rep.undef
    | true =>
      simp only [if_true]
      simp only [hw] at h
      cases hoa : opA ao.op fr.env st with
      | none => simp [hoa] at h
      | some nx =>
        have hnd : ∀ c, o.op ≠ .defer c := not_defer hop (by
          intro y ys hh; rw [hh] at hoa; simp [opA] at hoa)
        refine ⟨fun f _ => hF.fn f, ?_⟩
        rw [Oper.semAt_eq _ _ _ hnd]
        simp only [hoa] at h
        cases nx with
        | val v st' =>
          simp only [Option.some.injEq] at h; subst h
          obtain ⟨J', w', x, hle, hS', hr, hrun | ⟨hrun, rfl⟩⟩ := op_val hS hR.env hG.1 hop hoa
          · rw [hrun, Oper.uponIn_value]
            exact hn rfl J' _ w' hle hS' (by rw [hdst]; exact put_rep (hR.mono hle) hr)
          · rw [hrun, Oper.uponIn_skip]
            exact hn rfl J' _ w' hle hS' (by rw [hdst]; exact put_rep (hR.mono hle) hr)
        | pan v =>
          simp only [Option.some.injEq] at h; subst h
          obtain ⟨x, hr, hrun⟩ := op_pan (w := w) hR.env hG.1 hop hoa
          rw [hrun, Oper.uponIn_panic]
          exact hp v rfl J x w (Inj.le.refl J) hS hR.defs hr
        | defer d => exact (no_defer hoa).elim
        | call f args =>
          obtain ⟨y, ys, hyy⟩ := call_only hoa
          rw [hyy] at hoa hop
          obtain ⟨cargs, hcr, hrun⟩ := op_call (w := w) hR.env hG.1 hop hoa
          simp only [] at h
          cases hg : g (.call f args) st with
          | none => simp [hg] at h
          | some q =>
            have hq := G _ _ _ hg base J w cargs hS hG hcr
            rw [hrun]
            obtain ⟨qx, ⟨qenv, qd⟩, qst⟩ := q
            rcases hq with ⟨he, hcall⟩ | ⟨z, w', he, hends⟩
            · rw [he, Oper.uponIn_enter]
              refine ⟨hF.depth, ?_⟩
              have hcall' : CallsIn F 0 P f cargs w (Ends (SitesOf P gl A) base J ⟨qx, ⟨qenv, qd⟩, qst⟩) := by
                cases rnd with
                | none => rw [show F = FW from hF]; exact hcall
                | some rr => obtain ⟨l, _, rfl⟩ := hF; exact hcall
              refine CallsIn.mono hcall' ?_
              rintro e w' ⟨J', hle, hS', hx⟩
              cases qx with
              | nrm => exact hx.elim
              | exit id => exact hx.elim
              | ret =>
                obtain ⟨v, z, henv, hr, rfl⟩ := hx
                simp only [] at henv; subst henv
                simp [hg] at h; subst h
                exact hn rfl J' _ w' hle hS' (by rw [hdst]; exact put_rep (hR.mono hle) hr)
              | pan v =>
                obtain ⟨z, hr, rfl⟩ := hx
                simp [hg] at h; subst h
                exact hp v rfl J' z w' hle hS' (hR.defs.mono hle) hr
            · rw [he, Oper.uponIn_value]
              obtain ⟨J', hle, hS', hx⟩ := hends
              cases qx with
              | nrm => exact hx.elim
              | exit id => exact hx.elim
              | ret =>
                obtain ⟨v, z', henv, hr, hz⟩ := hx
                cases hz
                simp only [] at henv; subst henv
                simp [hg] at h; subst h
                exact hn rfl J' _ w' hle hS' (by rw [hdst]; exact put_rep (hR.mono hle) hr)
              | pan v =>
                obtain ⟨z', hr, hz⟩ := hx
                cases hz
        | round q args =>
          obtain ⟨y, ys, hyy⟩ := round_only hoa
          rw [hyy] at hoa hop
          obtain ⟨cargs, l, hl, hcr, hrun⟩ := op_round (w := w) hR.env hG.1 hop hoa
          simp only [] at h
          cases hg : g (.round q args) st with
          | none => simp [hg] at h
          | some q' =>
            obtain ⟨f, tmps, asg, body, hy, hround⟩ := G _ _ _ hg base J w cargs l hS hG hl hcr
            rw [hrun, hy, Oper.uponIn_round]
            obtain ⟨qx, ⟨qenv, qd⟩, qst⟩ := q'
            refine ⟨hF.depth, ?_⟩
            have hround' : RoundIn F 0 P l f tmps asg body w (Ends (SitesOf P gl A) base J ⟨qx, ⟨qenv, qd⟩, qst⟩) := by
              cases rnd with
              | none => rw [show F = FW from hF]; exact hround
              | some rr => obtain ⟨l', _, rfl⟩ := hF; exact hround
            refine RoundIn.mono hround' ?_
            rintro e w' ⟨J', hle, hS', hx⟩
            cases qx with
            | nrm => exact hx.elim
            | exit id => exact hx.elim
            | ret =>
              obtain ⟨v, z, henv, hr, rfl⟩ := hx
              simp only [] at henv; subst henv
              simp [hg] at h; subst h
              exact hn rfl J' _ w' hle hS' (by rw [hdst]; exact put_rep (hR.mono hle) hr)
            | pan v =>
              obtain ⟨z, hr, rfl⟩ := hx
              simp [hg] at h; subst h
              exact hp v rfl J' z w' hle hS' (hR.defs.mono hle) hr
end
end Go.Proofs.YtfkmdajlpnkebaaDoor.Ai
