/- Calls and rounds, and all of it by the fuel: sound. No condition. -/
import Derived.Test.YtfkmdajlpnkebaaDoorAi19
namespace Go.Proofs.YtfkmdajlpnkebaaDoor.Ai
open Go

section
variable {P : Program} {gl : List (Nat × AV)} {A : AProg} {B : World → Prop} {g : Task → St → Option Res} {K : Sites} {base : World} {J : Inj} {st : St} {w : World}

theorem runDefs_ok {fn : Func} {tmps : Array Value} {R : Ending → World → Prop} {u : FrameMode} (hu : u ≠ .run) : ∀ (ds : List ADef) (cds : List Deferred) (st st' : St) (w : World), runDefs ds st = some st' → Sim K base J st w → DefReps J ds cds →
    (∀ w', Sim K base J st' w' → LeavesIn FW 0 P fn tmps R [] u w') → LeavesInM FW 0 P fn tmps R cds u w
  | [], cds, st, st', w, h, hS, hd, hk => by
    simp only [runDefs, Option.some.injEq] at h; subst h
    simp only [DefReps] at hd; subst hd
    simp only [LeavesInM]; exact hk w hS
  | .call f args :: ds, cds, st, st', w, h, hS, hd, hk => by simp [runDefs] at h
  | .collected r :: ds, cds, st, st', w, h, hS, hd, hk => by
    obtain ⟨y, ys, rfl, ⟨b, hb, rfl⟩, hd2⟩ := hd
    simp only [runDefs] at h
    cases hst : st[r]? with
    | none => simp [hst] at h
    | some ob =>
      rw [hst] at h
      split at h
      · rename_i heq
        cases heq
        obtain ⟨b', ds', h1, h2, l', rfl, h3⟩ := hS.obj r _ hst
        rw [hb] at h1; cases h1
        simp only [DefReps] at h3; subst h3
        have hbl := heap_lt h2
        have hupd := hS.upd hst hb rfl (by simp) (w' := { w with heap := w.heap.setIfInBounds b (.deferred none) }) (a := .defr none) rfl (by simp) rfl rfl (by simp)
          (fun b' hne => by simp [Array.getElem?_setIfInBounds, Ne.symm hne]) ⟨b, none, hb, by simp [hbl], rfl⟩
        refine ⟨hu, .inl ⟨b, _, rfl, ?_, runDefs_ok hu ds ys _ st' _ h hupd hd2 hk⟩⟩
        simp [Instr.takeDeferred, getObj, setObj, Sem.run, h2]
      · cases h

theorem loadStill {u v : AV} {x : Value} {t : TypeId} {m : Nat} {agg : Bool} (hS : Sim K base J st w) (hvf : varFits P t m agg = true) (hr : Rep J (.iptr u) x)
    (h : readStill m agg u = some v) :
    ∃ ad y, x = .pointer (some ad) ∧ (loadVar t ad).run P w = .ok y w ∧ Rep J v y := by
  simp only [readStill] at h
  simp only [Rep] at hr
  obtain ⟨ad, y', hx', hsp, hry, hvar, hrow⟩ := hr
  obtain ⟨_, _, hm⟩ := varFits_iff hvf
  have hcell : ∀ (j : Nat) x, y'.cells.toList[j]? = some x → w.cell? ⟨ad.block, ad.off + j, none⟩ = some x := fun j x hj => hS.imOk _ _ _ (hrow j x hj)
  refine ⟨ad, y', hx', ?_, ?_⟩
  · cases agg with
    | true =>
      simp only [if_true] at h
      split at h
      · rename_i cs
        split at h
        · rename_i hl
          simp only [Rep] at hry
          obtain ⟨arr, rfl, hr1, _⟩ := hry
          rw [r_loadVar hvf hsp arr.toList (by rw [← hr1.length]; exact hl) hcell]
          simp
        · cases h
      · cases h
    | false =>
      simp only [Bool.false_eq_true, if_false] at h
      split at h
      · rename_i hc
        have hm1 := hm rfl
        subst hm1
        obtain ⟨_, hcs⟩ := hry.oneCell hc
        rw [hcs] at hcell
        rw [r_loadVar hvf hsp [y'] rfl hcell]
        simp
      · cases h
  · cases agg with
    | true =>
      simp only [if_true] at h
      split at h
      · split at h
        · cases h; exact hry
        · cases h
      · cases h
    | false =>
      simp only [Bool.false_eq_true, if_false] at h
      split at h
      · cases h; exact hry
      · cases h

theorem results_ok {e : Env} {tmps : Array Value} (hS : Sim K base J st w) (hE : Reps J e tmps.toList) : ∀ (rs : List ResultVar) (as : List ARes) (vs : List AV), ressFit P rs as = true → resultsA st e as = some vs →
    ∃ xs : List Value, (rs.mapM fun
      | .tmp t => pure (tmps.getD t Go.undef)
      | .cell a t => do loadVar t (← asAddr (tmps.getD a Go.undef)) : Sem (List Value)).run P w = .ok xs w ∧ Reps J vs xs
  | [], [], vs, _, h => by simp [resultsA] at h; subst h; exact ⟨[], by simp, by simp [Reps]⟩
  | [], _ :: _, _, h, _ => by simp [ressFit] at h
  | _ :: _, [], _, h, _ => by simp [ressFit] at h
  | r :: rs, ar :: as, vs, hf, h => by
    simp only [ressFit, Bool.and_eq_true] at hf
    simp only [resultsA] at h
    split at h
    · rename_i v us hv hus
      simp only [Option.some.injEq] at h; subst h
      obtain ⟨xs, hx, hr⟩ := results_ok hS hE rs as us hf.2 hus
      obtain ⟨x, hx1, hr1⟩ : ∃ x, ((match r with
          | .tmp t => pure (tmps.getD t Go.undef)
          | .cell a t => do loadVar t (← asAddr (tmps.getD a Go.undef)) : Sem Value)).run P w = .ok x w ∧ Rep J v x := by
        cases r with
        | tmp t =>
          cases ar with
          | tmp t' => simp [resFits] at hf; rw [← hf.1] at hv; simp [resA] at hv; subst hv; exact ⟨_, rfl, hE.getD t⟩
          | cell _ _ _ => simp [resFits] at hf
        | cell ad t =>
          cases ar with
          | tmp _ => simp [resFits] at hf
          | cell i m agg =>
            simp only [resFits, Bool.and_eq_true, beq_iff_eq] at hf
            obtain ⟨⟨rfl, hvf⟩, _⟩ := hf
            have hr0 := hE.getD ad
            simp only [resA] at hv
            cases hev : e.getD ad .undef <;> simp only [hev] at hv <;> try (cases hv; done)
            · rename_i q off
              rw [hev] at hr0; simp only [Rep] at hr0
              obtain ⟨b, hb, e1⟩ := hr0
              cases hst : st[q]? with
              | none => simp [hst] at hv
              | some ob =>
                cases ob <;> simp only [hst] at hv <;> try (cases hv; done)
                rename_i cs
                obtain ⟨b', c, tt, h1, ⟨fr, h2, _⟩, h3, h4, h5, _⟩ := hS.obj q _ hst
                rw [hb] at h1; cases h1
                obtain ⟨_, _, hm⟩ := varFits_iff hvf
                have hcell : ∀ (j : Nat) x, (c.toList.drop off)[j]? = some x → w.cell? ⟨b, off + j, none⟩ = some x := by
                  intro j x hj
                  rw [cell_of_heap h2]; rw [List.getElem?_drop] at hj; simpa using hj
                unfold takeVar at hv
                cases agg with
                | true =>
                  simp only [if_true] at hv
                  split at hv
                  · rename_i hle
                    cases hv
                    have hrr : Reps J ((cs.drop off).take m) ((c.toList.drop off).take m) := by
                      have := (h4.drop off).take m
                      rw [List.drop_take, List.take_take] at this
                      rwa [Nat.min_eq_left (by omega)] at this
                    refine ⟨.agg ((c.toList.drop off).take m).toArray, ?_, ?_⟩
                    · simp only [e1, asAddr, Sem.run_bind, Sem.run_pure, Result.andThen_ok]
                      rw [r_loadVar hvf rfl ((c.toList.drop off).take m) (by simp; omega) (fun j x hj => hcell j x (by rw [List.getElem?_take] at hj; split at hj; exact hj; cases hj))]
                      simp
                    · simp only [Rep]
                      refine ⟨_, rfl, by simpa using hrr, ?_⟩
                      rw [List.all_eq_true] at h5 ⊢
                      intro z hz; exact h5 z (List.mem_of_mem_drop (List.mem_of_mem_take hz))
                  · cases hv
                | false =>
                  simp only [Bool.false_eq_true, if_false] at hv
                  have hm1 := hm rfl
                  subst hm1
                  obtain ⟨x, hx1, hx2⟩ := h4.get off v hv
                  have hx3 : c.toList[off]? = some x := by rw [List.getElem?_take] at hx1; split at hx1; exact hx1; cases hx1
                  refine ⟨x, ?_, hx2⟩
                  simp only [e1, asAddr, Sem.run_bind, Sem.run_pure, Result.andThen_ok]
                  rw [r_loadVar hvf rfl [x] rfl (fun j y hj => by
                    cases j with
                    | zero => simp at hj; subst hj; exact hcell 0 x (by rw [List.getElem?_drop]; exact hx3)
                    | succ j => simp at hj)]
                  simp
            · rw [hev] at hr0
              obtain ⟨add, y, e1, hload, hry⟩ := loadStill hS hvf hr0 hv
              exact ⟨y, by simp only [e1, asAddr, Sem.run_bind, Sem.run_pure, Result.andThen_ok]; exact hload, hry⟩
      refine ⟨x :: xs, ?_, by simp only [Reps]; exact ⟨x, xs, rfl, hr1, hr⟩⟩
      rw [List.mapM_cons, Sem.run_bind, hx1]
      simp only [Result.andThen_ok, Sem.run_bind, hx, Sem.run_pure]
    · cases h

theorem results_run {fn : Func} {e : Env} {tmps : Array Value} {as : List ARes} {vs : List AV} (hS : Sim K base J st w) (hE : Reps J e tmps.toList) (hf : ressFit P fn.results.toList as = true) (h : resultsA st e as = some vs) :
    ∃ x, (results fn tmps).run P w = .ok x w ∧ Rep J (oneOf vs) x := by
  obtain ⟨xs, hx, hr⟩ := results_ok hS hE _ _ _ hf h
  have hrun : (fn.results.mapM fun
      | .tmp t => pure (tmps.getD t Go.undef)
      | .cell a t => do loadVar t (← asAddr (tmps.getD a Go.undef)) : Sem (Array Value)).run P w = .ok xs.toArray w := by
    rw [Array.mapM_eq_mapM_toList, Sem.run_map]
    have := hx
    rw [this]; rfl
  unfold results
  rw [Sem.run_bind]
  refine ⟨_, congrArg (fun q : Result (Array Value) => q.andThen fun vs w' => Sem.run P (pure (if h : vs.size = 1 then vs[0] else .tuple vs)) w') hrun, ?_⟩
  have hl := hr.length
  match vs, xs, hr, hl with
  | [v], [x], hr, _ =>
    simp only [Reps] at hr
    obtain ⟨y, ys, hy, h1, _⟩ := hr
    cases hy
    simpa [oneOf] using h1
  | [], [], hr, _ => simp [oneOf, Rep, Reps]
  | v :: v' :: vs, x :: x' :: xs, hr, _ =>
    simp only [oneOf, Rep]
    exact ⟨(x :: x' :: xs).toArray, by simp, by simpa using hr⟩

variable (hmix : P.follows .mixedOrders = true) (hplan : ∀ ops ss, planFits P gl ops ss = true → PlanOk P gl ops ss) (hA : ∀ f F, A.fn f = some F → funcFits P gl f F = true)
include hmix hplan hA

theorem callFn_ok (G : ∀ t st r, g t st = some r → TaskOk P gl A B t st r) {f : FuncId} {args : List AV} {r : Res} (h : callFn A g f args st = some r) {cargs : Array Value}
    (hS : Sim (SitesOf P gl A) base J st w) (hG : GOk B gl base J) (hR : Reps J args cargs.toList) :
    (callFunc f cargs).run P w = .ok (.enter f cargs) w ∧ CallsIn FW 0 P f cargs w (Ends (SitesOf P gl A) base J r) := by
  unfold callFn at h
  cases hF : A.fn f with
  | none => simp [hF] at h
  | some F =>
    simp only [hF] at h
    have hff := hA f F hF
    unfold funcFits at hff
    split at hff
    · rename_i fn hfn
      split at hff
      · rename_i c hc
        simp only [Bool.and_eq_true, bne_iff_ne, beq_iff_eq] at hff
        obtain ⟨⟨⟨hname, hnt⟩, hres⟩, hcode⟩ := hff
        refine ⟨?_, ?_⟩
        · have hn : (fn.name == "runtime.NumGoroutine") = false := by simpa using hname
          simp [callFunc, hfn, hname, hc]
        · cases hex : exec g f none F.body ⟨args ++ List.replicate (F.ntmps - args.length) .undef, []⟩ st with
          | none => simp [hex] at h
          | some q =>
            obtain ⟨qx, qf, qs⟩ := q
            simp only [hex] at h
            have hl := hR.length
            have hR0 : FrRep J ⟨args ++ List.replicate (F.ntmps - args.length) .undef, []⟩ { tmps := cargs ++ Array.replicate (fn.ntmps - cargs.size) Go.undef, defers := [] } := by
              refine ⟨?_, rfl⟩
              simp only [Array.toList_append, Array.toList_replicate]
              refine hR.append ?_
              rw [hnt, show cargs.size = args.length by simp at hl; omega]
              have : ∀ n, Reps J (List.replicate n AV.undef) (List.replicate n Go.undef) := by
                intro n; induction n with
                | zero => simp [Reps]
                | succ n ih => simp only [List.replicate_succ, Reps]; exact ⟨_, _, rfl, Rep.undef, ih⟩
              exact this _
            have hexec := exec_ok (rnd := none) hmix hplan G hF c F.body FW J w _ _ st _ hcode rfl hS hG hR0 hex
            refine callsIn_of_wp_marks hfn hc trivial (wpIn_mono hexec ?_)
            rintro e a' w' ⟨J', hle, hS', hdf, hx⟩
            cases hrd : runDefs qf.defs qs with
            | none => simp [hrd] at h
            | some st'' =>
              simp only [hrd] at h
              -- how it returns
              have ret : ∀ (hE : Reps J' qf.env a'.tmps.toList) (h : (match resultsA st'' qf.env F.results with
                  | none => none
                  | some vs => if F.keep then some (⟨.ret, ⟨[oneOf vs], []⟩, st''⟩ : Res) else
                    match settle st.length (oneOf vs) st'' with
                    | some (v, st3) => some ⟨.ret, ⟨[v], []⟩, st3⟩
                    | none => none) = some r), LeavesInM FW 0 P fn a'.tmps (Ends (SitesOf P gl A) base J r) a'.defers .returning w' := by
                intro hE h
                refine runDefs_ok (by simp) _ _ _ _ _ hrd hS' hdf fun w2 hS2 => ?_
                cases hrs : resultsA st'' qf.env F.results with
                | none => simp [hrs] at h
                | some vs =>
                  simp only [hrs] at h
                  obtain ⟨x, hx, hrx⟩ := results_run hS2 hE hres hrs
                  refine ⟨x, hx, ?_⟩
                  split at h
                  · simp only [Option.some.injEq] at h; subst h
                    exact ⟨J', hle, hS2, _, x, rfl, hrx, rfl⟩
                  · split at h
                    · rename_i v st3 hset
                      simp only [Option.some.injEq] at h; subst h
                      obtain ⟨J3, hle3, hS3, hr3⟩ := settle_sim hS hle hS2 hset hrx
                      exact ⟨J3, hle3, hS3, _, x, rfl, hr3, rfl⟩
                    · cases h
              cases qx with
              | nrm => obtain ⟨rfl, hE⟩ := hx; exact ret hE h
              | ret => obtain ⟨rfl, hE⟩ := hx; exact ret hE h
              | exit id => simp at h
              | pan v =>
                obtain ⟨z, hr, rfl⟩ := hx
                simp only [Option.some.injEq] at h; subst h
                exact runDefs_ok (by simp) _ _ _ _ _ hrd hS' hdf fun w2 hS2 => ⟨J', hle, hS2, z, hr, rfl⟩
      · cases hff
    · cases hff

omit hA in
theorem roundFn_ok (G : ∀ t st r, g t st = some r → TaskOk P gl A B t st r) {q : Nat} {args : List AV} {r : Res} (h : roundFn A g q args st = some r) {cargs : Array Value} {l : Nat}
    (hS : Sim (SitesOf P gl A) base J st w) (hG : GOk B gl base J) (hl : J.ρ q = some l) (hR : Reps J args cargs.toList) :
    ∃ f tmps asg body, (Instr.yield l cargs).run P w = .ok (.round l f tmps asg body) w ∧ RoundIn FW 0 P l f tmps asg body w (Ends (SitesOf P gl A) base J r) := by
  unfold roundFn at h
  split at h
  · rename_i pend f site ps env d hst
    cases hF : A.fn f with
    | none => simp [hF] at h
    | some F =>
      simp only [hF] at h
      cases hsite : F.sites[site]? with
      | none => simp [hsite] at h
      | some p =>
        obtain ⟨asgA, bodyA⟩ := p
        simp only [hsite] at h
        split at h
        · rename_i hlen
          obtain ⟨b, lo, h1, h2, h3, h4, ⟨F', a1, b1, k1, k2, k3, k4⟩, h7, h8, h9⟩ := hS.obj q _ hst
          rw [hl] at h1; cases h1
          rw [hF] at k1; cases k1
          rw [hsite] at k2; cases k2
          have hcl := hR.length
          have hsz : cargs.size = lo.params.size := by
            have : lo.params.toList.length = ps.length := by rw [h7]
            simp at this hcl; omega
          refine ⟨lo.fn, (lo.params.zip cargs).foldl (fun tmps (t, a) => tmps.setIfInBounds t a) lo.tmps, lo.assign, lo.body, ?_, ?_⟩
          · simp [Instr.yield, Instr.getLoop, getObj, Sem.run, h2, hsz]
          · -- the temporaries
            have hE : Reps J ((ps.zip args).foldl (fun e (t, a) => e.set t a) env) ((lo.params.zip cargs).foldl (fun tmps (t, a) => tmps.setIfInBounds t a) lo.tmps).toList := by
              rw [← Array.foldl_toList, Array.toList_zip, h7]
              have : ∀ (ps : List Nat) (as : List AV) (xs : List Value) (e : Env) (tm : Array Value), Reps J as xs → Reps J e tm.toList → Reps J ((ps.zip as).foldl (fun e (t, a) => e.set t a) e) ((ps.zip xs).foldl (fun tmps (t, a) => tmps.setIfInBounds t a) tm).toList := by
                intro ps
                induction ps with
                | nil => intro as xs e tm _ he; simpa using he
                | cons p ps ih =>
                  intro as xs e tm hr he
                  cases as with
                  | nil => simp only [Reps] at hr; subst hr; simpa using he
                  | cons v as =>
                    simp only [Reps] at hr
                    obtain ⟨y, ys, rfl, hr1, hr2⟩ := hr
                    simp only [List.zip_cons_cons, List.foldl_cons]
                    refine ih as ys _ _ hr2 ?_
                    simp only [Array.toList_setIfInBounds]
                    exact he.set p hr1
              exact this ps args cargs.toList env lo.tmps hR h8
            have hFo : FenceOk J (FW.inRound l) (some q) := ⟨l, hl, rfl⟩
            cases hx1 : exec g f (some q) asgA ⟨(ps.zip args).foldl (fun e (t, a) => e.set t a) env, []⟩ st with
            | none => simp [hx1] at h
            | some r1 =>
              refine roundIn_of_wpIn trivial (wpIn_mono (exec_ok hmix hplan G hF lo.assign asgA (FW.inRound l) J w { tmps := (lo.params.zip cargs).foldl (fun tmps (t, a) => tmps.setIfInBounds t a) lo.tmps, defers := [] } ⟨(ps.zip args).foldl (fun e (t, a) => e.set t a) env, []⟩ st r1 k3 hFo hS hG ⟨hE, rfl⟩ hx1) ?_)
              rintro e a' w' ⟨J1, hle, hS1, hdf, hex⟩
              obtain ⟨x1, f1, s1⟩ := r1
              rw [hx1] at h
              split at h
              · rename_i fr1 st1 heq
                cases heq
                obtain ⟨rfl, hE1⟩ := hex
                split at h
                · rename_i pend1 ff1 site1 ps1 env1 d1 hst1
                  obtain ⟨b', lo1, g1, g2, g3, g4, g6, g7, g8, g9⟩ := hS1.obj q _ hst1
                  have hb' : b' = l := by have := hle.ρ q l hl; rw [g1] at this; exact Option.some.inj this
                  subst hb'
                  have hbl := heap_lt g2
                  have hupd := hS1.upd hst1 g1 rfl (by simp) (w' := { w' with heap := w'.heap.setIfInBounds b' (.loop { lo1 with state := .busy }) }) (a := .loop .busy pend1 ff1 site1 ps1 env1 d1) rfl (by simp) rfl rfl (by simp)
                    (fun b2 hne => by simp [Array.getElem?_setIfInBounds, Ne.symm hne]) ⟨b', { lo1 with state := .busy }, g1, by simp [hbl], rfl, g4, g6, g7, g8, g9⟩
                  refine ⟨{ w' with heap := w'.heap.setIfInBounds b' (.loop { lo1 with state := .busy }) }, ?_, ?_⟩
                  · simp [Instr.beginRound, Instr.getLoop, getObj, setObj, Sem.run, g2, g3]
                  · cases hx2 : exec g f (some q) bodyA f1 (s1.set q (.loop .busy pend1 ff1 site1 ps1 env1 d1)) with
                    | none => rw [hx2] at h; simp only [roundEnd] at h; cases h
                    | some r2 =>
                      refine wpIn_mono (exec_ok hmix hplan G hF lo.body bodyA (FW.inRound b') J1 _ a' f1 _ r2 k4 (hFo.mono hle) hupd (hG.mono hle) ⟨hE1, hdf⟩ hx2) ?_
                      rintro e2 a2 w2 ⟨J2, hle2, hS2, hdf2, hex2⟩
                      obtain ⟨x2, ⟨e2v, d2v⟩, s2⟩ := r2
                      rw [hx2] at h
                      cases d2v with
                      | cons dd ds => simp only [roundEnd] at h; cases h
                      | nil =>
                        simp only [roundEnd] at h
                        split at h
                        · rename_i ss pp f2 site2 ps2 env2 dd2 hst2
                          obtain ⟨b2, lo2, m1, m2, m3, m4, m6, m7, m8, m9⟩ := hS2.obj q _ hst2
                          have hb2 : b2 = b' := by have := hle2.ρ q b' g1; rw [m1] at this; exact Option.some.inj this
                          subst hb2
                          have hbl2 := heap_lt m2
                          have upd2 : ∀ (s : LoopState) (p : Option APend), Sim (SitesOf P gl A) base J2 (s2.set q (.loop s p f2 site2 ps2 env2 dd2)) { w2 with heap := w2.heap.setIfInBounds b2 (.loop { lo2 with state := s, pending := pendCode p }) } := by
                            intro s p
                            exact hS2.upd hst2 m1 rfl (by simp) (a := .loop s p f2 site2 ps2 env2 dd2) rfl (by simp) rfl rfl (by simp)
                              (fun b3 hne => by simp [Array.getElem?_setIfInBounds, Ne.symm hne]) ⟨b2, { lo2 with state := s, pending := pendCode p }, m1, by simp [hbl2], rfl, rfl, m6, m7, m8, m9⟩
                          cases x2 with
                          | nrm =>
                            simp only [Option.some.injEq] at h; subst h
                            obtain ⟨rfl, _⟩ := hex2
                            refine ⟨.bool true, _, ?_, J2, hle.trans hle2, upd2 .ready none, .bool true, .bool true, rfl, by simp [Rep], rfl⟩
                            simp [Instr.endRound, Instr.getLoop, getObj, setObj, Sem.run, m2, pendCode]
                          | ret =>
                            simp only [Option.some.injEq] at h; subst h
                            obtain ⟨rfl, _⟩ := hex2
                            refine ⟨.bool false, _, ?_, J2, hle.trans hle2, upd2 .done (some .ret), .bool false, .bool false, rfl, by simp [Rep], rfl⟩
                            simp [Instr.endRound, Instr.getLoop, getObj, setObj, Sem.run, m2, pendCode]
                          | exit id =>
                            simp only [Option.some.injEq] at h; subst h
                            obtain ⟨rfl, _⟩ := hex2
                            refine ⟨.bool false, _, ?_, J2, hle.trans hle2, upd2 .done (some (.exit id)), .bool false, .bool false, rfl, by simp [Rep], rfl⟩
                            simp [Instr.endRound, Instr.getLoop, getObj, setObj, Sem.run, m2, pendCode]
                          | pan v => simp at h
                        · cases h
                · cases h
              · cases h
        · cases h
  · cases h

/-- What a function given by itself does is what its place in the abstract program says. -/
def PrimsOk (P : Program) (gl : List (Nat × AV)) (A : AProg) (B : World → Prop) : Prop :=
  ∀ f h args st o st', A.prim f = some h → h args st = some (o, st') →
    TaskOk P gl A B (.call f args) st (match o with | .ret v => ⟨.ret, ⟨[v], []⟩, st'⟩ | .pan v => ⟨.pan v, ⟨[], []⟩, st'⟩)

theorem layer_ok (hprim : PrimsOk P gl A B) (G : ∀ t st r, g t st = some r → TaskOk P gl A B t st r) : ∀ t st r, layer A g t st = some r → TaskOk P gl A B t st r := by
  intro t st r h
  cases t with
  | call f args =>
    simp only [layer] at h
    split at h
    · rename_i p hp
      split at h
      · rename_i v st' he
        simp only [Option.some.injEq] at h; subst h
        exact hprim f p args st (.ret v) st' hp he
      · rename_i v st' he
        simp only [Option.some.injEq] at h; subst h
        exact hprim f p args st (.pan v) st' hp he
      · cases h
    · intro base J w cargs hS hG hR
      exact .inl (callFn_ok hmix hplan hA G h hS hG hR)
  | seqc f args =>
    simp only [layer] at h
    split at h
    · cases h
    · intro base J w cargs hS hG hR
      exact callFn_ok hmix hplan hA G h hS hG hR
  | round q args =>
    simp only [layer] at h
    intro base J w cargs l hS hG hl hR
    exact roundFn_ok hmix hplan G h hS hG hl hR
  | loop f rnd body fr =>
    simp only [layer] at h
    intro F code hF hcode base J w a Fe hFe hS hG hR
    cases hx : exec g f rnd body fr st with
    | none => simp [hx] at h
    | some q =>
      refine loopHead_round (wpIn_mono (exec_ok hmix hplan G hF code body Fe J w a fr st q hcode hFe hS hG hR hx) ?_)
      rintro e a' w' ⟨J', hle, hS', hdf, hex⟩
      obtain ⟨qx, qf, qs⟩ := q
      cases qx with
      | nrm =>
        simp only [hx] at h
        obtain ⟨rfl, henv⟩ := hex
        have := G _ _ _ h F code hF hcode base J' w' a' Fe (hFe.mono hle) hS' (hG.mono hle) ⟨henv, hdf⟩
        intro b k cs h1 h2 h3
        obtain ⟨e, a2, w2, p, arr⟩ := this b k cs h1 h2 h3
        exact ⟨e, a2, w2, p.le hle, arr⟩
      | exit id => simp [hx] at h; subst h; obtain ⟨rfl, henv⟩ := hex; exact ⟨J', hle, hS', hdf, rfl, henv⟩
      | ret => simp [hx] at h; subst h; obtain ⟨rfl, henv⟩ := hex; exact ⟨J', hle, hS', hdf, rfl, henv⟩
      | pan v => simp [hx] at h; subst h; obtain ⟨z, hr, rfl⟩ := hex; exact ⟨J', hle, hS', hdf, z, hr, rfl⟩

theorem runA_ok (hprim : PrimsOk P gl A B) : ∀ n t st r, runA A n t st = some r → TaskOk P gl A B t st r
  | 0, t, st, r, h => by cases h
  | n + 1, t, st, r, h => layer_ok hmix hplan hA hprim (runA_ok hprim n) t st r h
end
end Go.Proofs.YtfkmdajlpnkebaaDoor.Ai
