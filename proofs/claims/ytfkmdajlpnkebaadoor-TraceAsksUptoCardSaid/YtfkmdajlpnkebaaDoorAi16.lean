/- All operations together. No condition. -/
import Derived.Test.YtfkmdajlpnkebaaDoorAi15
import Derived.RangeFuncLeaves
namespace Go.Proofs.YtfkmdajlpnkebaaDoor.Ai
open Go

/-- It ends with a value, if at all. -/
def IsVal (o : Option Nx) : Prop := ∀ r, o = some r → ∃ v st, r = .val v st

theorem IsVal.none : IsVal none := fun _ h => by cases h
theorem IsVal.some {v : AV} {st : St} : IsVal (some (.val v st)) := fun _ h => by cases h; exact ⟨v, st, rfl⟩
theorem IsVal.map {α : Type} {x : Option α} {f : α → Nx} (h : ∀ a, ∃ v st, f a = .val v st) : IsVal (x.map f) := fun r hr => by
  cases x with
  | none => cases hr
  | some a => simp at hr; subst hr; exact h a
theorem IsVal.bind {α : Type} {x : Option α} {f : α → Option Nx} (h : ∀ a, IsVal (f a)) : IsVal (x.bind f) := fun r hr => by
  cases x with
  | none => cases hr
  | some a => exact h a r hr

theorem opA_val {ao : AOp} {e : Env} {st : St} (hc : ∀ y ys, ao ≠ .call y ys) (hp : ∀ y, ao ≠ .panic y) : IsVal (opA ao e st) := by
  cases ao with
  | call y ys => exact absurd rfl (hc y ys)
  | panic y => exact absurd rfl (hp y)
  | mkLit m z ps mu =>
    simp only [opA]
    refine IsVal.map fun a => ?_
    cases mu <;> exact ⟨_, _, rfl⟩
  | _ =>
    simp only [opA]
    repeat' (first | exact IsVal.none | exact IsVal.some | (refine IsVal.map fun _ => ⟨_, _, rfl⟩) | (refine IsVal.bind fun _ => ?_) | split)

section
variable {P : Program} {gl : List (Nat × AV)} {K : Sites} {base : World} {J : Inj} {st st' : St} {w : World} {a : Act} {e : Env} {o : Oper} {v : AV}

theorem isAgg_basic {t : TypeId} {d : TypeDesc} (hd : P.underlying t = some d) (hk : kindD d < 3) : isAggT P t = some false := by
  unfold isAggT
  rw [hd]
  cases d <;> simp [kindD] at hk ⊢

/-- Two cells of a plain kind. -/
theorem r_eqCell {n : Nat} {t : TypeId} {d : TypeDesc} {k q : AV} {x y : Value} {b : Bool} (hd : P.underlying t = some d) (hkd : kindD d = keyKind k) (h3 : keyKind k < 3) (hk : Rep J k x) (hq : Rep J q y) (h : sameKey k q = some b) :
    (Op.equalIn (n + 1) t x y).run P w = .ok b w := by
  rw [Op.equalIn]
  simp only [Sem.run_bind, r_under hd, Result.andThen_ok]
  cases k <;> cases q <;> simp only [sameKey] at h <;> try (cases h; done)
  all_goals
    simp only [Rep] at hk hq
    cases d <;> simp [kindD, keyKind] at hkd
  · cases h; subst hk hq; simp
  · subst hk hq
    split at h
    · rename_i hkk
      cases h; simp [hkk]
    · cases h
  · cases h; obtain ⟨b1, rfl, rfl⟩ := hk; obtain ⟨b2, rfl, rfl⟩ := hq
    cases b1 with | mk x => cases b2 with | mk y =>
    simp only [Sem.run_pure]
    congr 1
    rw [Bool.eq_iff_iff]
    show (x == y) = true ↔ _
    simp

theorem r_eqFields {n : Nat} : ∀ (fs : List Field) (ks : List Nat) (off : Nat) (cs ds : List AV) (xs ys : Array Value) (b : Bool), plainFields P fs ks off = true → Reps J cs (xs.toList.drop off) → Reps J ds (ys.toList.drop off) →
    eqCells ks cs ds = some b → (forIn fs ((none : Option Bool), ()) fun (f : Field) (__s : Option Bool × Unit) => (
            if f.name ≠ "_" then do
              let __do_lift ← part f.type xs f.offset
              let __do_lift_1 ← part f.type ys f.offset
              let __do_lift ← Op.equalIn (n + 1) f.type __do_lift __do_lift_1
              if (!__do_lift) = true then pure (ForInStep.done (some false, ())) else pure (ForInStep.yield (none, ()))
            else pure (ForInStep.yield (none, ())) : Sem (ForInStep (Option Bool × Unit)))).run P w = .ok (if b then (none, ()) else (some false, ())) w
  | [], ks, off, cs, ds, xs, ys, b, hp, h1, h2, he => by
    cases ks with
    | cons k ks => simp [plainFields] at hp
    | nil =>
      cases cs with
      | cons _ _ => simp [eqCells] at he
      | nil =>
        cases ds with
        | cons _ _ => simp [eqCells] at he
        | nil => simp [eqCells] at he; subst he; simp
  | f :: fs, ks, off, cs, ds, xs, ys, b, hp, h1, h2, he => by
    cases ks with
    | nil => simp [plainFields] at hp
    | cons k ks =>
      simp only [plainFields, Bool.and_eq_true, bne_iff_ne, beq_iff_eq, decide_eq_true_eq] at hp
      obtain ⟨⟨⟨⟨⟨hname, rfl⟩, hk⟩, h3⟩, hsz⟩, hp⟩ := hp
      obtain ⟨d, hd, hk⟩ := isK_some hk
      simp only [beq_iff_eq] at hk
      cases cs with
      | nil => simp [eqCells] at he
      | cons u cs =>
        cases ds with
        | nil => simp [eqCells] at he
        | cons q ds =>
          simp only [eqCells] at he
          split at he
          · rename_i hku
            simp only [Reps] at h1 h2
            obtain ⟨x, xs', hx, r1, r1'⟩ := h1
            obtain ⟨y, ys', hy, r2, r2'⟩ := h2
            have hx0 : xs[f.offset]? = some x := by
              have : (xs.toList.drop f.offset)[0]? = some x := by rw [hx]; rfl
              rw [List.getElem?_drop] at this; simpa using this
            have hy0 : ys[f.offset]? = some y := by
              have : (ys.toList.drop f.offset)[0]? = some y := by rw [hy]; rfl
              rw [List.getElem?_drop] at this; simpa using this
            have hx' : xs' = xs.toList.drop (f.offset + 1) := by
              rw [← List.drop_drop, hx]; rfl
            have hy' : ys' = ys.toList.drop (f.offset + 1) := by
              rw [← List.drop_drop, hy]; rfl
            have hag := isAgg_basic hd (by omega)
            have hp1 : (part f.type xs f.offset).run P w = .ok x w := by simp [part, r_isAgg hag, hx0]
            have hp2 : (part f.type ys f.offset).run P w = .ok y w := by simp [part, r_isAgg hag, hy0]
            rw [List.forIn_cons]
            simp only [ne_eq, hname, not_false_eq_true, if_true, Sem.run_bind, hp1, hp2, Result.andThen_ok]
            cases hs : sameKey u q with
            | none => simp [hs] at he
            | some bb =>
              have hcell := r_eqCell (P := P) (w := w) (n := n) hd (by omega) (by omega) r1 r2 hs
              rw [hcell]
              cases bb with
              | false => simp [hs] at he; subst he; simp
              | true =>
                simp only [hs] at he
                simp only [Result.andThen_ok, Bool.not_true, Bool.false_eq_true, if_false, Sem.run_pure]
                exact r_eqFields fs ks (f.offset + 1) cs ds xs ys b hp (hx' ▸ r1') (hy' ▸ r2') he
          · cases he

theorem did_eqAgg (hS : Sim K base J st w) (hE : Reps J e a.tmps.toList) (hG : GlOk gl J) {ks : List Nat} {neg : Bool} {y z : AX} (hf : opFits P gl o.op (.eqAgg ks neg y z) = true) (h : opA (.eqAgg ks neg y z) e st = some (.val v st')) :
    Did P K base J (execOp a.eval o) w v st' := by
  cases ho : o.op <;> simp only [ho, opFits, Bool.false_eq_true] at hf
  rename_i op' t x u t'
  simp only [Bool.and_eq_true, beq_iff_eq, Bool.not_eq_true'] at hf
  obtain ⟨⟨⟨⟨⟨rfl, hk⟩, hst⟩, hgd⟩, hx⟩, hu⟩ := hf
  have h1 := xFits_rep hE hG hx
  have h2 := xFits_rep hE hG hu
  split at hk
  · rename_i fs hd
    simp only [opA] at h
    cases hy : y.ev e <;> simp only [hy] at h <;> try (cases h; done)
    cases hz : z.ev e <;> simp only [hz] at h <;> try (cases h; done)
    rename_i cs ds
    cases he : eqCells ks cs ds with
    | none => simp [he] at h
    | some b =>
      simp only [he, Option.map_some, Option.some.injEq, Nx.val.injEq] at h
      obtain ⟨rfl, rfl⟩ := h
      rw [hy] at h1; rw [hz] at h2
      simp only [Rep] at h1 h2
      obtain ⟨xs, e1, r1, _⟩ := h1
      obtain ⟨ys, e2, r2, _⟩ := h2
      have heq : (Op.equal t (.agg xs) (.agg ys)).run P w = .ok b w := by
        refine r_equal ?_
        rw [Op.equalIn]
        simp only [Sem.run_bind, r_under hd, Result.andThen_ok, run_program, hst, Bool.false_eq_true, if_false]
        rw [← Array.forIn_toList, r_eqFields fs.toList ks 0 cs ds xs ys b hk (by simpa using r1) (by simpa using r2) he]
        cases b <;> simp
      have hgu : ∀ bo : BinOp, (eqGuard bo t x u (.agg xs) (.agg ys)).run P w = .ok () w := by
        intro bo
        cases bo <;> simp [eqGuard, hgd]
      refine Did.same hS (x := .bool (if neg then !b else b)) (by simp [Rep]) ?_
      cases neg <;> simp [execOp, ho, e1, e2, hgu, binOp, heq]
  · cases hk

theorem op_val (hS : Sim K base J st w) (hE : Reps J e a.tmps.toList) (hG : GlOk gl J) {ao : AOp} (hf : opFits P gl o.op ao = true) (h : opA ao e st = some (.val v st')) :
    Did P K base J (execOp a.eval o) w v st' := by
  cases ao with
  | mov y => exact did_mov hS hE hG hf h
  | movT y => exact did_movT hS hE hG hf h
  | pick c x y => exact did_pick hS hE hG hf h
  | new z mu => exact did_new hS hf h
  | box m y mu => exact did_box hS hE hG hf h
  | build z ps => exact did_build hS hE hG hf h
  | mkLit m z ps mu => exact did_mkLit hS hE hG hf h
  | load m agg y => exact did_load hS hE hG hf h
  | store m y z => exact did_store hS hE hG hf h
  | nilCheck y => exact did_nilCheck hS hE hG hf h
  | bin op y z => exact did_bin hS hE hG hf h
  | eqBool n y z => exact did_eqBool hS hE hG hf h
  | eqAgg ks n y z => exact did_eqAgg hS hE hG hf h
  | eqPtr n y z => exact did_eqPtr hS hE hG hf h
  | eqIface n y z => exact did_eqIface hS hE hG hf h
  | un op y => exact did_un hS hE hG hf h
  | convInt k y => exact did_convInt hS hE hG hf h
  | convSame y => exact did_convSame hS hE hG hf h
  | convBytes mu y => exact did_convBytes hS hE hG hf h
  | convStr y => exact did_convStr hS hE hG hf h
  | mkIface t y => exact did_mkIface hS hE hG hf h
  | mkFunc f ys zs => exact did_mkFunc hS hE hG hf h
  | mkMap => exact did_mkMap hS hf h
  | mkSlice m b z l c t => exact did_mkSlice hS hE hG hf h
  | sliceStr y lo hi => exact did_sliceStr hS hE hG hf h
  | sliceLst m y lo hi mx => exact did_sliceLst hS hE hG hf h
  | sliceArr n m y lo hi => exact did_sliceArr hS hE hG hf h
  | fieldAddr off s agg y => exact did_fieldAddr hS hE hG hf h
  | field off s agg y => exact did_field hS hE hG hf h
  | indexAddr m agg arr y z => exact did_indexAddr hS hE hG hf h
  | indexStr y z => exact did_indexStr hS hE hG hf h
  | indexArr n m agg y z => exact did_indexArr hS hE hG hf h
  | lookup kd z ok y i => exact did_lookup hS hE hG hf h
  | mapUpdate kd y z u => exact did_mapUpdate hS hE hG hf h
  | extract y i => exact did_extract hS hE hG hf h
  | assertT t z ok y => exact did_assertT hS hE hG hf h
  | lenStr y => exact did_lenStr hS hE hG hf h
  | lenSl y => exact did_lenSl hS hE hG hf h
  | lenMap y => exact did_lenMap hS hE hG hf h
  | lenArr n => exact did_lenArr hS hf h
  | append m b y z => exact did_append hS hE hG hf h
  | copy m y z => exact did_copy hS hE hG hf h
  | minmax b ys => exact did_minmax hS hE hG hf h
  | call y ys =>
    simp only [opA] at h
    split at h <;> simp at h
  | panic y =>
    simp only [opA] at h
    split at h <;> simp at h
  | defer y ys => simp [opA] at h

/-- A panic of the code's own. -/
theorem op_pan (hE : Reps J e a.tmps.toList) (hG : GlOk gl J) {ao : AOp} (hf : opFits P gl o.op ao = true) (h : opA ao e st = some (.pan v)) : ∃ x, Rep J v x ∧ (execOp a.eval o).run P w = .halt (.panic x) w := by
  cases ao with
  | panic y =>
    simp only [opA] at h
    split at h
    · rename_i t q hy
      simp only [Option.some.injEq, Nx.pan.injEq] at h
      subst h
      have fin : ∀ x, xFits gl x y = true → ∃ z, a.eval x = .iface t z ∧ Rep J (.iface t q) (a.eval x) := by
        intro x hx
        have := xFits_rep hE hG hx
        rw [hy] at this
        have h' := this
        simp only [Rep] at h'
        obtain ⟨z, e1, _⟩ := h'
        exact ⟨z, e1, this⟩
      simp only [opFits] at hf
      split at hf
      · rename_i x ho
        obtain ⟨z, e1, hr⟩ := fin x hf
        exact ⟨_, hr, by simp [execOp, ho, e1, Instr.panic]⟩
      · split at hf
        · rename_i x ts ho
          obtain ⟨z, e1, hr⟩ := fin x hf
          have := asBuiltin_eq ho
          exact ⟨_, hr, by simp [execOp, this, resolve, invoke, builtin, e1, Instr.panic]⟩
        · cases hf
    · cases h
  | call y ys =>
    simp only [opA] at h
    split at h <;> simp at h
  | _ =>
    obtain ⟨u, s, hu⟩ := opA_val (by intro y ys; simp) (by intro y; simp) _ h
    cases hu

/-- A call: which function, and of what. -/
theorem op_call (hE : Reps J e a.tmps.toList) (hG : GlOk gl J) {y : AX} {ys : List AX} (hf : opFits P gl o.op (.call y ys) = true) {f : FuncId} {args : List AV} (h : opA (.call y ys) e st = some (.call f args)) :
    ∃ cargs : Array Value, Reps J args cargs.toList ∧ (execOp a.eval o).run P w = (callFunc f cargs).run P w := by
  simp only [opFits] at hf
  cases ho : o.op <;> simp only [ho, Bool.false_eq_true] at hf
  rename_i c
  unfold callFits at hf
  split at hf
  · rename_i x hc
    simp only [Bool.and_eq_true] at hf
    have h1 := xFits_rep hE hG hf.1
    have h2 := xsFit_reps hE hG hf.2
    simp only [opA] at h
    split at h
    · rename_i g first cap hy
      simp only [Option.some.injEq, Nx.call.injEq] at h
      obtain ⟨rfl, rfl⟩ := h
      rw [hy] at h1; simp only [Rep] at h1
      obtain ⟨a', b', e1, r1, r2⟩ := h1
      refine ⟨(a' ++ c.args.map a.eval) ++ b', ?_, ?_⟩
      · simp only [Array.toList_append, Array.toList_map]
        exact (r1.append h2).append r2
      · simp [execOp, ho, resolve, hc, e1, Deferred.ofValue, invoke]
    · cases h
    · cases h
  · cases hf

theorem op_round (hE : Reps J e a.tmps.toList) (hG : GlOk gl J) {y : AX} {ys : List AX} (hf : opFits P gl o.op (.call y ys) = true) {r : Nat} {args : List AV} (h : opA (.call y ys) e st = some (.round r args)) :
    ∃ (cargs : Array Value) (l : Nat), J.ρ r = some l ∧ Reps J args cargs.toList ∧ (execOp a.eval o).run P w = (Instr.yield l cargs).run P w := by
  simp only [opFits] at hf
  cases ho : o.op <;> simp only [ho, Bool.false_eq_true] at hf
  rename_i c
  unfold callFits at hf
  split at hf
  · rename_i x hc
    simp only [Bool.and_eq_true] at hf
    have h1 := xFits_rep hE hG hf.1
    have h2 := xsFit_reps hE hG hf.2
    simp only [opA] at h
    split at h
    · cases h
    · rename_i r' hy
      simp only [Option.some.injEq, Nx.round.injEq] at h
      obtain ⟨rfl, rfl⟩ := h
      rw [hy] at h1; simp only [Rep] at h1
      obtain ⟨_, _, l, hl, e1⟩ := h1
      refine ⟨c.args.map a.eval, l, hl, by simpa using h2, ?_⟩
      simp [execOp, ho, resolve, hc, e1, Deferred.ofValue, invoke]
    · cases h
  · cases hf

/-- Only a call calls. -/
theorem call_only {ao : AOp} {f : FuncId} {args : List AV} (h : opA ao e st = some (.call f args)) : ∃ y ys, ao = .call y ys := by
  cases ao with
  | call y ys => exact ⟨y, ys, rfl⟩
  | panic y =>
    simp only [opA] at h
    split at h <;> simp at h
  | _ =>
    obtain ⟨u, s, hu⟩ := opA_val (by intro y ys; simp) (by intro y; simp) _ h
    cases hu

theorem round_only {ao : AOp} {r : Nat} {args : List AV} (h : opA ao e st = some (.round r args)) : ∃ y ys, ao = .call y ys := by
  cases ao with
  | call y ys => exact ⟨y, ys, rfl⟩
  | panic y =>
    simp only [opA] at h
    split at h <;> simp at h
  | _ =>
    obtain ⟨u, s, hu⟩ := opA_val (by intro y ys; simp) (by intro y; simp) _ h
    cases hu

theorem no_defer {ao : AOp} {d : ADef} (h : opA ao e st = some (.defer d)) : False := by
  cases ao with
  | call y ys =>
    simp only [opA] at h
    split at h <;> simp at h
  | panic y =>
    simp only [opA] at h
    split at h <;> simp at h
  | _ =>
    obtain ⟨u, s, hu⟩ := opA_val (by intro y ys; simp) (by intro y; simp) _ h
    cases hu
end
end Go.Proofs.YtfkmdajlpnkebaaDoor.Ai
