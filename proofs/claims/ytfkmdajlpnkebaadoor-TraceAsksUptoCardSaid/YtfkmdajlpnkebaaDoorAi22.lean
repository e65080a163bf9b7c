/- A region whose order is open: what an operation hangs on. No condition. -/
import Derived.Test.YtfkmdajlpnkebaaDoorAi21
namespace Go.Proofs.YtfkmdajlpnkebaaDoor.Ai
open Go

theorem opA_congr {ao : AOp} {e e' : Env} {st : St} (h : ∀ x ∈ ao.xs, x.ev e = x.ev e') : opA ao e st = opA ao e' st := by
  have hl : ∀ lo : Option AX, (∀ x ∈ lo.toList, x.ev e = x.ev e') → lo.map (AX.ev e) = lo.map (AX.ev e') := by
    intro lo hlo
    cases lo with
    | none => rfl
    | some x => simp [hlo x (by simp)]
  have hm : ∀ l : List AX, (∀ x ∈ l, x.ev e = x.ev e') → l.map (AX.ev e) = l.map (AX.ev e') := fun l hl => List.map_congr_left hl
  have hp : ∀ ps : List (Nat × Nat × AX), (∀ x ∈ ps.map (·.2.2), x.ev e = x.ev e') → (ps.map fun (o, s, x) => (o, s, x.ev e)) = ps.map fun (o, s, x) => (o, s, x.ev e') := by
    intro ps hps
    refine List.map_congr_left fun p hp => ?_
    obtain ⟨a, b, x⟩ := p
    simp only
    rw [hps x (List.mem_map.2 ⟨_, hp, rfl⟩)]
  cases ao with
  | pick a b c => simp only [opA, h a (by simp [AOp.xs]), h b (by simp [AOp.xs]), h c (by simp [AOp.xs])]
  | new z mu => rfl
  | mkMap => rfl
  | lenArr n => rfl
  | build z ps => simp only [opA, hp ps h]
  | mkLit m z ps mu => simp only [opA, hp ps h]
  | mkFunc f a b => simp only [opA, hm a (fun x hx => h x (by simp [AOp.xs, hx])), hm b (fun x hx => h x (by simp [AOp.xs, hx]))]
  | sliceStr x lo hi => simp only [opA, h x (by simp [AOp.xs]), hl lo (fun y hy => h y (by simp [AOp.xs] at hy ⊢; simp [hy])), hl hi (fun y hy => h y (by simp [AOp.xs] at hy ⊢; simp [hy]))]
  | sliceArr n m x lo hi => simp only [opA, h x (by simp [AOp.xs]), hl lo (fun y hy => h y (by simp [AOp.xs] at hy ⊢; simp [hy])), hl hi (fun y hy => h y (by simp [AOp.xs] at hy ⊢; simp [hy]))]
  | sliceLst m x lo hi mx =>
    have h1 := h x (by simp [AOp.xs])
    have h2 := hl lo (fun y hy => h y (by simp [AOp.xs] at hy ⊢; simp [hy]))
    have h3 := hl hi (fun y hy => h y (by simp [AOp.xs] at hy ⊢; simp [hy]))
    cases mx with
    | none => simp only [opA, h1, h2, h3]
    | some z => simp only [opA, h1, h2, h3, h z (by simp [AOp.xs])]
  | mapUpdate k a b c => simp only [opA, h a (by simp [AOp.xs]), h b (by simp [AOp.xs]), h c (by simp [AOp.xs])]
  | call f as => simp only [opA, h f (by simp [AOp.xs]), hm as (fun x hx => h x (by simp [AOp.xs, hx]))]
  | minmax b xs => simp only [opA, hm xs h]
  | defer f as => rfl
  | mov x => simp only [opA, h x (by simp [AOp.xs])]
  | movT x => simp only [opA, h x (by simp [AOp.xs])]
  | box m x mu => simp only [opA, h x (by simp [AOp.xs])]
  | load m a x => simp only [opA, h x (by simp [AOp.xs])]
  | nilCheck x => simp only [opA, h x (by simp [AOp.xs])]
  | un o x => simp only [opA, h x (by simp [AOp.xs])]
  | convInt k x => simp only [opA, h x (by simp [AOp.xs])]
  | convSame x => simp only [opA, h x (by simp [AOp.xs])]
  | convBytes mu x => simp only [opA, h x (by simp [AOp.xs])]
  | convStr x => simp only [opA, h x (by simp [AOp.xs])]
  | mkIface t x => simp only [opA, h x (by simp [AOp.xs])]
  | fieldAddr a b c x => simp only [opA, h x (by simp [AOp.xs])]
  | field a b c x => simp only [opA, h x (by simp [AOp.xs])]
  | extract x i => simp only [opA, h x (by simp [AOp.xs])]
  | assertT a b c x => simp only [opA, h x (by simp [AOp.xs])]
  | lenStr x => simp only [opA, h x (by simp [AOp.xs])]
  | lenSl x => simp only [opA, h x (by simp [AOp.xs])]
  | lenMap x => simp only [opA, h x (by simp [AOp.xs])]
  | panic x => simp only [opA, h x (by simp [AOp.xs])]
  | store m a x => simp only [opA, h a (by simp [AOp.xs]), h x (by simp [AOp.xs])]
  | bin o a x => simp only [opA, h a (by simp [AOp.xs]), h x (by simp [AOp.xs])]
  | eqBool o a x => simp only [opA, h a (by simp [AOp.xs]), h x (by simp [AOp.xs])]
  | eqAgg k o a x => simp only [opA, h a (by simp [AOp.xs]), h x (by simp [AOp.xs])]
  | eqPtr o a x => simp only [opA, h a (by simp [AOp.xs]), h x (by simp [AOp.xs])]
  | eqIface o a x => simp only [opA, h a (by simp [AOp.xs]), h x (by simp [AOp.xs])]
  | mkSlice a1 a2 a3 a x t => simp only [opA, h a (by simp [AOp.xs]), h x (by simp [AOp.xs])]
  | indexAddr a1 a2 a3 a x => simp only [opA, h a (by simp [AOp.xs]), h x (by simp [AOp.xs])]
  | indexStr a x => simp only [opA, h a (by simp [AOp.xs]), h x (by simp [AOp.xs])]
  | indexArr a1 a2 a3 a x => simp only [opA, h a (by simp [AOp.xs]), h x (by simp [AOp.xs])]
  | lookup a1 a2 a3 a x => simp only [opA, h a (by simp [AOp.xs]), h x (by simp [AOp.xs])]
  | append a1 a2 a3 a x => simp only [opA, h a (by simp [AOp.xs]), h x (by simp [AOp.xs])]
  | copy a1 a x => simp only [opA, h a (by simp [AOp.xs]), h x (by simp [AOp.xs])]

/-- Alike in two stores. -/
def P2 (a b : Option Nx) (st st2 : St) : Prop := ∀ nx, a = some nx → ∃ v, nx = .val v st ∧ b = some (.val v st2)

theorem P2.none {b : Option Nx} {st st2 : St} : P2 none b st st2 := fun _ h => by cases h
theorem P2.val {v : AV} {st st2 : St} : P2 (some (.val v st)) (some (.val v st2)) st st2 := fun _ h => by cases h; exact ⟨v, rfl, rfl⟩
theorem P2.map {α : Type} {x : Option α} {f f2 : α → Nx} {st st2 : St} (h : ∀ a, ∃ v, f a = .val v st ∧ f2 a = .val v st2) : P2 (x.map f) (x.map f2) st st2 := fun r hr => by
  cases x with
  | none => cases hr
  | some a =>
    simp only [Option.map_some, Option.some.injEq] at hr
    obtain ⟨v, h1, h2⟩ := h a
    exact ⟨v, by rw [← hr, h1], by simp [h2]⟩
theorem P2.bind {α : Type} {x : Option α} {f f2 : α → Option Nx} {st st2 : St} (h : ∀ a, P2 (f a) (f2 a) st st2) : P2 (x.bind f) (x.bind f2) st st2 := fun r hr => by
  cases x with
  | none => cases hr
  | some a => exact h a r hr

theorem opA_pure {ao : AOp} {e : Env} (hc : ao.cls = 0) (st st2 : St) : P2 (opA ao e st) (opA ao e st2) st st2 := by
  cases ao with
  | new z mu =>
    cases mu <;> simp [AOp.cls] at hc
    simp only [opA, Bool.false_eq_true, if_false]; exact P2.val
  | box m x mu =>
    cases mu <;> simp [AOp.cls] at hc
    simp only [opA, Bool.false_eq_true, if_false]
    split
    · exact P2.val
    · exact P2.none
  | mkLit m z ps mu =>
    cases mu <;> simp [AOp.cls] at hc
    simp only [opA, Bool.false_eq_true, if_false]
    exact P2.map fun a => ⟨_, rfl, rfl⟩
  | convBytes mu x =>
    cases mu <;> simp [AOp.cls] at hc
    simp only [opA, Bool.false_eq_true, if_false]
    split
    · exact P2.val
    · exact P2.none
  | _ =>
    first
    | (simp [AOp.cls] at hc; done)
    | (simp only [opA]
       repeat' (first | exact P2.none | exact P2.val | (refine P2.map fun _ => ⟨_, rfl, rfl⟩) | (refine P2.bind fun _ => ?_) | split))

theorem opA_read {ao : AOp} {e : Env} {st : St} {nx : Nx} (hc : ao.cls ≠ 2) (h : opA ao e st = some nx) : ∃ v, nx = .val v st := by
  by_cases h0 : ao.cls = 0
  · obtain ⟨v, h1, _⟩ := opA_pure h0 st st nx h; exact ⟨v, h1⟩
  · have : P2 (opA ao e st) (opA ao e st) st st := by
      cases ao with
      | new z mu => cases mu <;> simp [AOp.cls] at hc h0
      | box m x mu => cases mu <;> simp [AOp.cls] at hc h0
      | mkLit m z ps mu => cases mu <;> simp [AOp.cls] at hc h0
      | convBytes mu x => cases mu <;> simp [AOp.cls] at hc h0
      | _ =>
        first
        | (exfalso; simp [AOp.cls] at hc h0; done)
        | (simp only [opA]
           repeat' (first | exact P2.none | exact P2.val | (refine P2.map fun _ => ⟨_, rfl, rfl⟩) | (refine P2.bind fun _ => ?_) | split))
    obtain ⟨v, h1, _⟩ := this nx h
    exact ⟨v, h1⟩

/-- Alike, for an operation. -/
structure Agree (o : AOper) (e e' : Env) : Prop where
  op : ∀ x ∈ o.op.xs, x.ev e = x.ev e'
  guard : ∀ t w, o.guard = some (t, w) → e[t]? = e'[t]?

theorem mem_xTmps {i : Nat} : ∀ {xs : List AX}, AX.t i ∈ xs → i ∈ xTmps xs
  | .t j :: xs, h => by
    rcases List.mem_cons.1 h with h | h
    · cases h; simp [xTmps]
    · simp [xTmps, mem_xTmps h]
  | .k v :: xs, h => by
    rcases List.mem_cons.1 h with h | h
    · cases h
    · simpa [xTmps] using mem_xTmps h

theorem Agree.of {o : AOper} {e e' : Env} (h : ∀ t, (t ∈ xTmps o.op.xs ∨ ∃ w, o.guard = some (t, w)) → e[t]? = e'[t]?) : Agree o e e' := by
  refine ⟨fun x hx => ?_, fun t w hw => h t (.inr ⟨w, hw⟩)⟩
  cases x with
  | t i =>
    simp only [AX.ev, List.getD_eq_getElem?_getD]
    rw [h i (.inl (mem_xTmps hx))]
  | k v => rfl

theorem setDst_get {d : Option Nat} {e : Env} {v : AV} {t : Nat} (h : d ≠ some t) : (setDst d e v)[t]? = e[t]? := by
  cases d with
  | none => rfl
  | some d =>
    simp only [setDst]
    exact List.getElem?_set_ne (fun hh => h (by rw [hh]))

/-- What z writes, x does not name: x does not see it. -/
theorem Agree.write {z x : AOper} {e : Env} {v : AV} (h : z.writes x = false) : Agree x (setDst z.dst e v) e := by
  refine Agree.of fun t ht => setDst_get fun hd => ?_
  unfold AOper.writes at h
  rw [hd] at h
  simp only [List.contains_eq_mem, decide_eq_false_iff_not] at h
  refine h ?_
  unfold AOper.names
  rcases ht with ht | ⟨w, hw⟩
  · simp [ht]
  · simp [hw]

section
variable {g : Task → St → Option Res}

theorem wantedA_congr {o : AOper} {e e' : Env} (h : Agree o e e') : wantedA o.guard e = wantedA o.guard e' := by
  cases hg : o.guard with
  | none => rfl
  | some p => obtain ⟨t, w⟩ := p; simp only [wantedA, h.guard t w hg]

/-- An operation, where its operands are alike: it ends alike. -/
theorem doOp_congr {o : AOper} {e e' : Env} {d : List ADef} {st : St} {q : Res} (h : Agree o e e') (hq : doOp g o ⟨e, d⟩ st = some q) :
    (∃ v d' st', q = ⟨.nrm, ⟨setDst o.dst e v, d'⟩, st'⟩ ∧ doOp g o ⟨e', d⟩ st = some ⟨.nrm, ⟨setDst o.dst e' v, d'⟩, st'⟩) ∨
    (∃ v st', q = ⟨.pan v, ⟨e, d⟩, st'⟩ ∧ doOp g o ⟨e', d⟩ st = some ⟨.pan v, ⟨e', d⟩, st'⟩) := by
  unfold doOp at hq ⊢
  simp only [← wantedA_congr h, ← opA_congr (st := st) h.op]
  cases hw : wantedA o.guard e with
  | none => simp [hw] at hq
  | some b =>
    cases b with
    | false =>
      simp only [hw, Option.some.injEq] at hq; subst hq
      exact .inl ⟨.undef, d, st, rfl, rfl⟩
    | true =>
      simp only [hw] at hq
      simp only []
      cases ho : opA o.op e st with
      | none => simp [ho] at hq
      | some nx =>
        simp only [ho] at hq
        cases nx with
        | val v st' => simp only [Option.some.injEq] at hq; subst hq; exact .inl ⟨v, d, st', rfl, rfl⟩
        | pan v => simp only [Option.some.injEq] at hq; subst hq; exact .inr ⟨v, st, rfl, rfl⟩
        | defer dd => simp only [Option.some.injEq] at hq; subst hq; exact .inl ⟨.undef, dd :: d, st, rfl, rfl⟩
        | call f args =>
          simp only [] at hq
          split at hq
          · rename_i v dd st' hg
            simp only [Option.some.injEq] at hq; subst hq
            exact .inl ⟨v, d, st', rfl, by simp [hg]⟩
          · rename_i v fr st' hg
            simp only [Option.some.injEq] at hq; subst hq
            exact .inr ⟨v, st', rfl, by simp [hg]⟩
          · cases hq
        | round r args =>
          simp only [] at hq
          split at hq
          · rename_i v dd st' hg
            simp only [Option.some.injEq] at hq; subst hq
            exact .inl ⟨v, d, st', rfl, by simp [hg]⟩
          · rename_i v fr st' hg
            simp only [Option.some.injEq] at hq; subst hq
            exact .inr ⟨v, st', rfl, by simp [hg]⟩
          · cases hq

/-- An operation that does not act: a value, and the store as it was. -/
theorem doOp_quiet {o : AOper} {e : Env} {d : List ADef} {st : St} {q : Res} (hc : o.op.cls ≠ 2) (hq : doOp g o ⟨e, d⟩ st = some q) :
    ∃ v, q = ⟨.nrm, ⟨setDst o.dst e v, d⟩, st⟩ ∧ ((wantedA o.guard e = some false ∧ v = .undef) ∨ (wantedA o.guard e = some true ∧ opA o.op e st = some (.val v st))) := by
  unfold doOp at hq
  cases hw : wantedA o.guard e with
  | none => simp [hw] at hq
  | some b =>
    cases b with
    | false =>
      simp only [hw, Option.some.injEq] at hq; subst hq
      exact ⟨.undef, rfl, .inl ⟨rfl, rfl⟩⟩
    | true =>
      simp only [hw] at hq
      cases ho : opA o.op e st with
      | none => simp [ho] at hq
      | some nx =>
        obtain ⟨v, rfl⟩ := opA_read hc ho
        simp only [ho, Option.some.injEq] at hq; subst hq
        exact ⟨v, rfl, .inr ⟨rfl, rfl⟩⟩
end
end Go.Proofs.YtfkmdajlpnkebaaDoor.Ai
