/- Code, calls, loops, rounds: sound. No condition. -/
import Derived.Test.YtfkmdajlpnkebaaDoorAi18
namespace Go.Proofs.YtfkmdajlpnkebaaDoor.Ai
open Go

section
variable {P : Program} {gl : List (Nat × AV)} {A : AProg} {B : World → Prop} {g : Task → St → Option Res}

/-- Operations by their numbers. -/
def IdxFit (P : Program) (gl : List (Nat × AV)) (ops : Array Oper) : List Nat → List AOper → Prop
  | [], as => as = []
  | i :: is, as => ∃ a as' o, as = a :: as' ∧ ops[i]? = some o ∧ operFits P gl ops o a = true ∧ IdxFit P gl ops is as'

theorem doOps_ok (G : ∀ t st r, g t st = some r → TaskOk P gl A B t st r) {F : Fence} {rnd : Option Nat} {base : World} {J0 : Inj} {ops : Array Oper} {r : Res} :
    ∀ (is : List Nat) (as : List AOper) (J : Inj) (w : World) (a : Act) (fr : Fr) (st : St), IdxFit P gl ops is as → J0.le J → FenceOk J F rnd → Sim (SitesOf P gl A) base J st w → GOk B gl base J → FrRep J fr a →
      doOps g as fr st = some r → wpOpsIn F 0 P ops (Post (SitesOf P gl A) base J0 r) is a w
  | [], as, J, w, a, fr, st, hi, hJ, hF, hS, hG, hR, h => by
    simp only [IdxFit] at hi; subst hi
    simp only [doOps, Option.some.injEq] at h; subst h
    simp only [wpOpsIn]
    exact ⟨J, hJ, hS, hR.defs, rfl, hR.env⟩
  | i :: is, as, J, w, a, fr, st, hi, hJ, hF, hS, hG, hR, h => by
    obtain ⟨ao, as', o, rfl, ho, hf, hi'⟩ := hi
    simp only [doOps] at h
    simp only [wpOpsIn, ho]
    cases hd : doOp g ao fr st with
    | none => simp [hd] at h
    | some q =>
      have key := doOp_ok G (r := q) hF hS hG hR hf hd (wpOpsIn F 0 P ops (Post (SitesOf P gl A) base J0 r) is) (Post (SitesOf P gl A) base J0 r)
        (fun hx J' a' w' hle hS' hR' => by
          obtain ⟨qx, qf, qs⟩ := q
          simp only [] at hx; subst hx
          simp only [hd] at h
          exact doOps_ok G is as' J' w' a' qf qs hi' (hJ.trans hle) (hF.mono hle) hS' (hG.mono hle) hR' h)
        (fun v hx J' z w' hle hS' hdf hr => by
          obtain ⟨qx, qf, qs⟩ := q
          simp only [] at hx; subst hx
          simp only [hd, Option.some.injEq] at h; subst h
          exact ⟨J', hJ.trans hle, hS', hdf, z, hr, rfl⟩)
      by_cases hw : Region.wanted o (yielded ops a.tmps) = true
      · rw [if_pos hw] at key ⊢; exact key
      · rw [if_neg hw] at key ⊢; exact ⟨fun f _ => hF.fn f, key⟩

theorem opersFit_idx {ops : Array Oper} : ∀ (os : List Oper) (as : List AOper) (n : Nat), opersFit P gl ops os as = true → (∀ (i : Nat) o, os[i]? = some o → ops[n + i]? = some o) → IdxFit P gl ops ((List.range os.length).map (n + ·)) as
  | [], [], _, _, _ => rfl
  | [], _ :: _, _, h, _ => by simp [opersFit] at h
  | _ :: _, [], _, h, _ => by simp [opersFit] at h
  | o :: os, a :: as, n, h, hg => by
    simp only [opersFit, Bool.and_eq_true] at h
    have := opersFit_idx os as (n + 1) h.2 (fun i o' e => by rw [show n + 1 + i = n + (i + 1) by omega]; exact hg (i + 1) o' (by simpa using e))
    rw [List.length_cons, List.range_succ_eq_map, List.map_cons]
    refine ⟨a, as, o, rfl, by simpa using hg 0 o (by simp), h.1, ?_⟩
    rw [List.map_map]
    have e : ((fun x => n + x) ∘ Nat.succ) = (fun x => n + 1 + x) := by funext x; simp; omega
    rw [e]; exact this

/-- What the plan of a region that draws its order is to show. -/
def PlanOk (P : Program) (gl : List (Nat × AV)) (ops : Array Oper) (ss : List AStep) : Prop :=
  ∀ (g : Task → St → Option Res) (fr : Fr) (st : St) (r : Res) (t : Nat), doSteps g ss ss fr st = some r →
    ∃ as r', IdxFit P gl ops (Region.schedule true ops t) as ∧ doOps g as fr st = some r' ∧ r'.x = r.x ∧ r'.st = r.st ∧ r'.fr.defs = r.fr.defs ∧ ((∃ v, r.x = .pan v) ∨ r'.fr = r.fr)

theorem Post.same {K : Sites} {base : World} {J : Inj} {r r' : Res} {e : Exit} {a : Act} {w : World} (hx : r'.x = r.x) (hs : r'.st = r.st) (hd : r'.fr.defs = r.fr.defs) (hn : (∃ v, r.x = .pan v) ∨ r'.fr = r.fr) (h : Post K base J r' e a w) : Post K base J r e a w := by
  obtain ⟨J', h1, h2, h3, h4⟩ := h
  refine ⟨J', h1, hs ▸ h2, hd ▸ h3, ?_⟩
  rw [hx] at h4
  rcases hn with ⟨v, hv⟩ | hf
  · rw [hv] at h4 ⊢; exact h4
  · rw [hf] at h4; exact h4

theorem wpOps_mono {F : Fence} {ops : Array Oper} {Q Q' : Exit → Act → World → Prop} (hq : ∀ e a w, Q e a w → Q' e a w) : ∀ (l : List Nat) (a : Act) (w : World), wpOpsIn F 0 P ops Q l a w → wpOpsIn F 0 P ops Q' l a w
  | [], a, w, h => hq _ _ _ h
  | i :: is, a, w, h => by
    simp only [wpOpsIn] at h ⊢
    split at h
    · exact wpOps_mono hq is a w h
    · rename_i o ho
      split at h
      · rename_i hw
        rw [if_pos hw]
        refine ⟨h.1, ?_⟩
        have h2 := h.2
        unfold Oper.uponIn at h2 ⊢
        split at h2
        · exact wpOps_mono hq is _ _ h2
        · exact wpOps_mono hq is _ _ h2
        · exact wpOps_mono hq is _ _ h2
        · refine ⟨h2.1, h2.2.mono fun e w' p => ?_⟩
          cases e with
          | returned v => exact wpOps_mono hq is _ _ p
          | panicked ch => exact hq _ _ _ p
          | outgrown => obtain ⟨a0, w0, p⟩ := p; exact ⟨a0, w0, hq _ _ _ p⟩
        · exact ⟨h2.1, h2.2.mono fun v w' p => wpOps_mono hq is _ _ p⟩
        · refine ⟨h2.1, h2.2.mono fun e w' p => ?_⟩
          cases e with
          | returned v => exact wpOps_mono hq is _ _ p
          | panicked ch => exact hq _ _ _ p
          | outgrown => obtain ⟨a0, w0, p⟩ := p; exact ⟨a0, w0, hq _ _ _ p⟩
        · exact hq _ _ _ h2
        · exact h2.elim
      · rename_i hw
        rw [if_neg hw]
        exact ⟨h.1, wpOps_mono hq is _ _ h.2⟩

theorem pend_code {J : Inj} {K : Sites} {base : World} {F : Fence} {p : Option APend} {fr : Fr} {st : St} {a : Act} {w : World} (hS : Sim K base J st w) (hR : FrRep J fr a) :
    (match pendCode p with
     | none => Post K base J ⟨pendEx p, fr, st⟩ .normal a w
     | some c => c.wpIn F 0 P (Post K base J ⟨pendEx p, fr, st⟩) a w) := by
  cases p with
  | none => exact ⟨J, Inj.le.refl J, hS, hR.defs, rfl, hR.env⟩
  | some p =>
    cases p with
    | ret => exact wpIn_ret ⟨J, Inj.le.refl J, hS, hR.defs, rfl, hR.env⟩
    | exit id => exact wpIn_exit ⟨J, Inj.le.refl J, hS, hR.defs, rfl, hR.env⟩

theorem DefReps.append {J : Inj} : ∀ {ms ds : List ADef} {xs ys : List Deferred}, DefReps J ms xs → DefReps J ds ys → DefReps J (ms ++ ds) (xs ++ ys)
  | [], _, _, _, h, h' => by simp only [DefReps] at h; subst h; exact h'
  | _ :: _, _, _, _, ⟨y, ys, e, h1, h2⟩, h' => by subst e; exact ⟨y, _, rfl, h1, DefReps.append h2 h'⟩

theorem range_ok (G : ∀ t st r, g t st = some r → TaskOk P gl A B t st r) {fn : FuncId} {AF : AFunc} (hfn : A.fn fn = some AF) {rnd : Option Nat} {base : World} {site : Nat} {asgA bodyA : ACode} {asg body : Code}
    (hst : AF.sites[site]? = some (asgA, bodyA)) (hs1 : codeFits P gl AF.sites asg asgA = true) (hs2 : codeFits P gl AF.sites body bodyA = true) {F : Fence} {J : Inj} {w : World} {a : Act} {fr : Fr} {st : St} {r : Res}
    (hF : FenceOk J F rnd) (hS : Sim (SitesOf P gl A) base J st w) (hG : GOk B gl base J) (hR : FrRep J fr a) {f : Operand} {hh : FuncId} {first cap : List AV} {ps : Array Tmp}
    (hfv : ∃ a' b' : Array Value, a.eval f = .func (.func hh) a' b' ∧ Reps J first a'.toList ∧ Reps J cap b'.toList) {d : Nat} {mark : List ADef} {st1 : St} (hrs : rangeStart rnd st = some (d, mark, st1))
    (h : rangeEnd st1.length fr mark (g (.seqc hh (first ++ [.func (.yield st1.length) [] []] ++ cap)) (st1 ++ [.loop .ready none fn site ps.toList fr.env d])) = some r) :
    (Code.rangeFunc f ps asg body).wpIn F 0 P (Post (SitesOf P gl A) base J r) a w := by
  obtain ⟨a', b', e1, r1, r2⟩ := hfv
  refine wpIn_rangeFunc fun fn' _ => ?_
  let lp (db : Nat) : Loop := { state := .ready, pending := none, fn := fn', tmps := a.tmps, params := ps, assign := asg, body := body, defers := db }
  -- what the loop's record hangs on
  obtain ⟨J1, w1, db, cmark, hJ1, hS1, hd, hmk, hent⟩ : ∃ J1 w1 db cmark, J.le J1 ∧ Sim (SitesOf P gl A) base J1 st1 w1 ∧ J1.ρ d = some db ∧ DefReps J1 mark cmark ∧
      (Instr.enterLoop fn' a.tmps ps asg body F.round).run P w = .ok (w1.heap.size, cmark) { w1 with heap := w1.heap.push (.loop (lp db)) } := by
    cases rnd with
    | none =>
      rw [show F = FW from hF]
      simp only [rangeStart, Option.some.injEq, Prod.mk.injEq] at hrs
      obtain ⟨rfl, rfl, rfl⟩ := hrs
      have hadd := hS.add (.deferred (some [])) (.defr (some [])) rfl (by simp) ⟨w.heap.size, some [], by simp [Inj.bind], by simp, [], rfl, rfl⟩
      refine ⟨_, _, w.heap.size, [{ target := .collected w.heap.size, args := #[] }], hS.bind_le _, hadd, by simp [Inj.bind], ⟨_, [], rfl, ⟨w.heap.size, by simp [Inj.bind], rfl⟩, rfl⟩, ?_⟩
      simp [Instr.enterLoop, Fence.wide, lp]
    | some q =>
      obtain ⟨l, hl, rfl⟩ := hF
      simp only [rangeStart] at hrs
      cases hq : st[q]? with
      | none => simp [hq] at hrs
      | some ob =>
        cases ob <;> simp only [hq] at hrs <;> try (cases hrs; done)
        rename_i s p f2 site2 ps2 env2 d2
        simp only [Option.some.injEq, Prod.mk.injEq] at hrs
        obtain ⟨rfl, rfl, rfl⟩ := hrs
        obtain ⟨b, lo, h1, h2, _, _, _, _, _, h9⟩ := hS.obj q _ hq
        rw [hl] at h1; cases h1
        refine ⟨J, w, lo.defers, [], Inj.le.refl J, hS, h9, rfl, ?_⟩
        simp [Instr.enterLoop, Instr.getLoop, getObj, Sem.run, h2, lp]
  have hadd := hS1.add (.loop (lp db)) (.loop .ready none fn site ps.toList fr.env d) rfl (by simp)
    ⟨w1.heap.size, lp db, by simp [Inj.bind], by simp, rfl, rfl, ⟨AF, asgA, bodyA, hfn, hst, hs1, hs2⟩, rfl, Reps.mono (hJ1.trans (hS1.bind_le _)) _ _ hR.env, (hS1.bind_le _).ρ _ _ hd⟩
  have hle2 := hS1.bind_le w1.heap.size
  have hJ2 := hJ1.trans hle2
  have hargs : Reps (J1.bind st1.length w1.heap.size) (first ++ [.func (.yield st1.length) [] []] ++ cap) ((a' ++ #[Value.func (.yield w1.heap.size) #[] #[]]) ++ b').toList := by
    simp only [Array.toList_append]
    refine ((Reps.mono hJ2 _ _ r1).append ?_).append (Reps.mono hJ2 _ _ r2)
    simp [Reps, Rep, Inj.bind]
  cases hg : g (.seqc hh (first ++ [.func (.yield st1.length) [] []] ++ cap)) (st1 ++ [.loop .ready none fn site ps.toList fr.env d]) with
  | none => rw [hg] at h; simp only [rangeEnd] at h; cases h
  | some q =>
    obtain ⟨hen, hcall⟩ := G _ _ _ hg base _ _ _ hadd (hG.mono hJ2) hargs
    let W2 : World := { w1 with heap := w1.heap.push (.loop (lp db)) }
    refine ⟨w1.heap.size, cmark, W2, { target := .fn (.func hh) b', args := a' ++ #[Value.func (.yield w1.heap.size) #[] #[]] }, W2, hh, (a' ++ #[Value.func (.yield w1.heap.size) #[] #[]]) ++ b', W2, hent, ?_, fun f' _ => hF.fn f', ?_, hF.depth, ?_⟩
    · have e2 : a.eval (.const (.func (.yield w1.heap.size) #[] #[])) = Value.func (.yield w1.heap.size) #[] #[] := rfl
      simp [resolve, rangeCall, e1, e2, Deferred.ofValue]
    · simp only [invoke]; exact hen
    · have hcall' : CallsIn F 0 P hh ((a' ++ #[Value.func (.yield w1.heap.size) #[] #[]]) ++ b') { w1 with heap := w1.heap.push (.loop (lp db)) } (Ends (SitesOf P gl A) base (J1.bind st1.length w1.heap.size) q) := by
        cases rnd with
        | none => rw [show F = FW from hF]; exact hcall
        | some rr => obtain ⟨l', _, rfl⟩ := hF; exact hcall
      refine CallsIn.mono hcall' ?_
      rintro e w' ⟨J', hle, hS', hx⟩
      have hJJ := hJ2.trans hle
      have hdefs : DefReps J' (mark ++ fr.defs) (cmark ++ a.defers) := by
        exact (hmk.mono (hle2.trans hle)).append (hR.defs.mono hJJ)
      obtain ⟨qx, qf, qs⟩ := q
      cases qx with
      | nrm => exact hx.elim
      | exit id => exact hx.elim
      | ret =>
        obtain ⟨v, z, henv, hr, rfl⟩ := hx
        simp only [hg, rangeEnd] at h
        cases hq : qs[st1.length]? with
        | none => simp [hq] at h
        | some ob =>
          cases ob <;> simp only [hq] at h <;> try (cases h; done)
          rename_i s pend f2 site2 ps2 env2 d2
          split at h
          · cases h
          · rename_i hbusy
            simp only [Option.some.injEq] at h; subst h
            obtain ⟨b, lo, h1, h2, h3, h4, h6, h7, h8, h9⟩ := hS'.obj _ _ hq
            have hb : b = w1.heap.size := by
              have := hle.ρ st1.length w1.heap.size (by simp [Inj.bind])
              rw [h1] at this; exact Option.some.inj this
            subst hb
            have hbl := heap_lt h2
            have hupd := hS'.upd hq h1 rfl (by simp) (w' := { w' with heap := w'.heap.setIfInBounds w1.heap.size (.loop { lo with state := .exhausted }) }) (a := .loop .exhausted pend f2 site2 ps2 env2 d2) rfl (by simp) rfl rfl (by simp)
              (fun b' hne => by simp [Array.getElem?_setIfInBounds, Ne.symm hne])
              ⟨w1.heap.size, { lo with state := .exhausted }, h1, by simp [hbl], rfl, h4, h6, h7, h8, h9⟩
            refine ⟨pendCode pend, { w' with heap := w'.heap.setIfInBounds w1.heap.size (.loop { lo with state := .exhausted }) }, ?_, ?_⟩
            · have hne : ¬ lo.state = LoopState.busy := by rw [h3]; exact hbusy
              simp [Instr.endLoop, Instr.getLoop, getObj, setObj, Sem.run, h2, hne, h4]
            · have := pend_code (P := P) (F := F) (p := pend) (fr := ⟨fr.env, mark ++ fr.defs⟩) (a := { a with defers := cmark ++ a.defers }) hupd ⟨Reps.mono hJJ _ _ hR.env, hdefs⟩
              cases hp : pendCode pend with
              | none => rw [hp] at this; exact this.le hJJ
              | some c => rw [hp] at this; exact wpIn_mono this (fun e a w p => p.le hJJ)
      | pan v =>
        obtain ⟨z, hr, rfl⟩ := hx
        simp only [hg, rangeEnd, Option.some.injEq] at h; subst h
        exact ⟨J', hJJ, hS', hdefs, z, hr, rfl⟩

variable (hmix : P.follows .mixedOrders = true)

include hmix in
/-- Code is left as the abstract one is. -/
theorem exec_ok (hplan : ∀ ops ss, planFits P gl ops ss = true → PlanOk P gl ops ss) (G : ∀ t st r, g t st = some r → TaskOk P gl A B t st r) {fn : FuncId} {AF : AFunc} (hfn : A.fn fn = some AF) {rnd : Option Nat} {base : World} :
    ∀ (c : Code) (ac : ACode) (F : Fence) (J : Inj) (w : World) (a : Act) (fr : Fr) (st : St) (r : Res), codeFits P gl AF.sites c ac = true → FenceOk J F rnd → Sim (SitesOf P gl A) base J st w → GOk B gl base J → FrRep J fr a →
      exec g fn rnd ac fr st = some r → c.wpIn F 0 P (Post (SitesOf P gl A) base J r) a w := by
  intro c
  induction c with
  | skip =>
    intro ac F J w a fr st r hc hF hS hG hR h
    cases ac <;> simp [codeFits] at hc
    simp [exec] at h; subst h
    exact wpIn_skip ⟨J, Inj.le.refl J, hS, hR.defs, rfl, hR.env⟩
  | label l =>
    intro ac F J w a fr st r hc hF hS hG hR h
    cases ac <;> simp [codeFits] at hc
    simp [exec] at h; subst h
    exact wpIn_label ⟨J, Inj.le.refl J, hS, hR.defs, rfl, hR.env⟩
  | region id ops draw =>
    intro ac F J w a fr st r hc hF hS hG hR h
    cases draw with
    | false =>
      cases ac <;> simp [codeFits] at hc
      rename_i as
      simp only [exec] at h
      refine wpIn_region ?_
      have hi := opersFit_idx ops.toList as 0 hc (fun i o e => by simpa using e)
      simp only [Nat.zero_add, List.map_id', Array.length_toList] at hi
      exact doOps_ok G _ as J w a fr st hi (Inj.le.refl J) hF hS hG hR h
    | true =>
      cases ac <;> simp [codeFits] at hc
      rename_i ss
      simp only [exec] at h
      refine wpIn_region_draw fun t => ?_
      rw [hmix]
      obtain ⟨as, r', hi, hd, hx, hs, hdf, hnf⟩ := hplan ops ss hc g fr st r t h
      have := doOps_ok G _ as J { w with drawn := w.drawn + 1 } a fr st hi (Inj.le.refl J) hF (hS.same rfl rfl rfl) hG hR hd
      exact wpOps_mono (fun e a w p => p.same hx hs hdf hnf) _ _ _ this
  | seq x y ihx ihy =>
    intro ac F J w a fr st r hc hF hS hG hR h
    cases ac <;> simp [codeFits] at hc
    rename_i ax ay
    simp only [exec] at h
    refine wpIn_seq ?_
    cases hx : exec g fn rnd ax fr st with
    | none => simp [hx] at h
    | some q =>
      refine wpIn_mono (ihx ax F J w a fr st q hc.1 hF hS hG hR hx) ?_
      rintro e a' w' ⟨J', hle, hS', hdf, hex⟩
      obtain ⟨qx, qf, qs⟩ := q
      cases qx with
      | nrm =>
        simp only [hx] at h
        obtain ⟨rfl, henv⟩ := hex
        exact wpIn_mono (ihy ay F J' w' a' qf qs r hc.2 (hF.mono hle) hS' (hG.mono hle) ⟨henv, hdf⟩ h) (fun e a w p => p.le hle)
      | exit id => simp [hx] at h; subst h; obtain ⟨rfl, henv⟩ := hex; exact ⟨J', hle, hS', hdf, rfl, henv⟩
      | ret => simp [hx] at h; subst h; obtain ⟨rfl, henv⟩ := hex; exact ⟨J', hle, hS', hdf, rfl, henv⟩
      | pan v => simp [hx] at h; subst h; obtain ⟨z, hr, rfl⟩ := hex; exact ⟨J', hle, hS', hdf, z, hr, rfl⟩
  | cond c x y ihx ihy =>
    intro ac F J w a fr st r hc hF hS hG hR h
    cases ac <;> simp [codeFits] at hc
    rename_i ac ax ay
    simp only [exec] at h
    have hcr := xFits_rep hR.env hG.1 hc.1.1
    cases hce : ac.ev fr.env <;> simp only [hce] at h <;> try (cases h; done)
    rename_i b
    rw [hce] at hcr
    simp only [Rep] at hcr
    refine wpIn_cond hcr ?_
    cases b with
    | true => exact ihx ax F J w a fr st r hc.1.2 hF hS hG hR (by simpa using h)
    | false => exact ihy ay F J w a fr st r hc.2 hF hS hG hR (by simpa using h)
  | block id x ih =>
    intro ac F J w a fr st r hc hF hS hG hR h
    cases ac <;> simp [codeFits] at hc
    rename_i id' ax
    obtain ⟨rfl, hc⟩ := hc
    simp only [exec] at h
    refine wpIn_block ?_
    cases hx : exec g fn rnd ax fr st with
    | none => simp [hx] at h
    | some q =>
      refine wpIn_mono (ih ax F J w a fr st q hc hF hS hG hR hx) ?_
      rintro e a' w' ⟨J', hle, hS', hdf, hex⟩
      obtain ⟨qx, qf, qs⟩ := q
      cases qx with
      | nrm => simp [hx] at h; subst h; obtain ⟨rfl, henv⟩ := hex; exact ⟨J', hle, hS', hdf, rfl, henv⟩
      | exit id' =>
        simp [hx] at h; subst h; obtain ⟨rfl, henv⟩ := hex
        by_cases hid : id' = id
        · simp only [Exit.inBlock, hid, if_true]; exact ⟨J', hle, hS', hdf, rfl, henv⟩
        · simp only [Exit.inBlock, hid, if_false]; exact ⟨J', hle, hS', hdf, rfl, henv⟩
      | ret => simp [hx] at h; subst h; obtain ⟨rfl, henv⟩ := hex; exact ⟨J', hle, hS', hdf, rfl, henv⟩
      | pan v => simp [hx] at h; subst h; obtain ⟨z, hr, rfl⟩ := hex; exact ⟨J', hle, hS', hdf, z, hr, rfl⟩
  | loop x ih =>
    intro ac F J w a fr st r hc hF hS hG hR h
    cases ac <;> simp [codeFits] at hc
    rename_i ax
    simp only [exec] at h
    exact wpIn_loopHead (G _ _ _ h AF x hfn hc base J w a F hF hS hG hR)
  | exit id =>
    intro ac F J w a fr st r hc hF hS hG hR h
    cases ac <;> simp [codeFits] at hc
    subst hc
    simp [exec] at h; subst h
    exact wpIn_exit ⟨J, Inj.le.refl J, hS, hR.defs, rfl, hR.env⟩
  | ret =>
    intro ac F J w a fr st r hc hF hS hG hR h
    cases ac <;> simp [codeFits] at hc
    simp [exec] at h; subst h
    exact wpIn_ret ⟨J, Inj.le.refl J, hS, hR.defs, rfl, hR.env⟩
  | rangeFunc f ps asg body ih1 ih2 =>
    intro ac F J w a fr st r hc hF hS hG hR h
    cases ac <;> simp [codeFits] at hc
    rename_i y ps' site
    obtain ⟨⟨hy, rfl⟩, hsite⟩ := hc
    split at hsite
    · rename_i asgA bodyA hst
      simp only [Bool.and_eq_true] at hsite
      have hyr := xFits_rep hR.env hG.1 hy
      simp only [exec] at h
      split at h
      · rename_i hh first cap hyv
        rw [hyv] at hyr
        simp only [Rep] at hyr
        obtain ⟨a', b', e1, r1, r2⟩ := hyr
        cases hrs : rangeStart rnd st with
        | none => simp [hrs] at h
        | some q =>
          obtain ⟨d, mark, st1⟩ := q
          simp only [hrs] at h
          exact range_ok G hfn hst hsite.1 hsite.2 hF hS hG hR (hh := hh) (first := first) (cap := cap) ⟨a', b', e1, r1, r2⟩ hrs h
      · cases h
    · cases hsite
  | goto l =>
    intro ac F J w a fr st r hc hF hS hG hR h
    cases ac <;> simp [codeFits] at hc
  | scope x ih =>
    intro ac F J w a fr st r hc hF hS hG hR h
    cases ac <;> simp [codeFits] at hc
  | refuse s =>
    intro ac F J w a fr st r hc hF hS hG hR h
    cases ac <;> simp [codeFits] at hc
end
end Go.Proofs.YtfkmdajlpnkebaaDoor.Ai
