/- Operations: what each does to a world is what the abstract one tells (third part: elements, lengths, cuts, maps). No condition. -/
import Derived.Test.YtfkmdajlpnkebaaDoorAi7
namespace Go.Proofs.YtfkmdajlpnkebaaDoor.Ai
open Go

section
variable {J : Inj}
theorem Elems.get {m : Nat} : ∀ {es : List AV} {b o : Nat}, Elems J m es b o → ∀ (i : Nat) v, es[i]? = some v → ∃ y, Rep J v y ∧ v.isVar = true ∧ y.cells.size = m ∧ Row J b (o + i * m) y.cells.toList
  | [], _, _, _, i, v, e => by simp at e
  | u :: es, b, o, h, i, v, e => by
    simp only [Elems] at h
    cases i with
    | zero => simp at e; subst e; simpa using h.1
    | succ i =>
      simp at e
      obtain ⟨y, h1, h2, h3, h4⟩ := h.2.get i v e
      refine ⟨y, h1, h2, h3, ?_⟩
      rw [show o + (i + 1) * m = o + m + i * m by rw [Nat.add_mul, Nat.one_mul]; omega]; exact h4

theorem Elems.take {m : Nat} : ∀ {es : List AV} {b o : Nat} (n : Nat), Elems J m es b o → Elems J m (es.take n) b o
  | [], _, _, _, _ => by simp [Elems]
  | _ :: es, b, o, 0, _ => by simp [Elems]
  | u :: es, b, o, n + 1, h => by
    simp only [Elems] at h
    simp only [List.take_succ_cons, Elems]
    exact ⟨h.1, Elems.take n h.2⟩

theorem Elems.drop {m : Nat} : ∀ {es : List AV} {b o : Nat} (n : Nat), Elems J m es b o → Elems J m (es.drop n) b (o + n * m)
  | [], _, _, _, _ => by simp [Elems]
  | u :: es, b, o, 0, h => by simpa using h
  | u :: es, b, o, n + 1, h => by
    simp only [Elems] at h
    have := Elems.drop n h.2
    rw [show o + m + n * m = o + (n + 1) * m by rw [Nat.add_mul, Nat.one_mul]; omega] at this
    simpa using this

theorem Elems.append {m : Nat} : ∀ {es es' : List AV} {b o : Nat}, Elems J m es b o → Elems J m es' b (o + es.length * m) → Elems J m (es ++ es') b o
  | [], es', b, o, _, h' => by simpa using h'
  | u :: es, es', b, o, h, h' => by
    simp only [Elems] at h
    simp only [List.cons_append, Elems]
    refine ⟨h.1, h.2.append ?_⟩
    rw [show o + m + es.length * m = o + (u :: es).length * m by simp [Nat.add_mul]; omega]; exact h'
end

theorem asBuiltin_eq {o : Op} {b : Builtin} {xs : List Operand} {ts : List TypeId} (h : asBuiltin o = some (b, xs, ts)) : o = .call { callee := .builtin b, args := xs.toArray, argTypes := ts.toArray } := by
  cases o <;> simp [asBuiltin] at h
  rename_i c
  obtain ⟨callee, args, argTypes⟩ := c
  cases callee <;> simp at h
  obtain ⟨rfl, rfl, rfl⟩ := h
  simp

/-- A builtin that only computes. -/
theorem r_builtin {P : Program} {w w' : World} {a : Act} {o : Oper} {b : Builtin} {xs : List Operand} {ts : List TypeId} {x : Value} (ho : asBuiltin o.op = some (b, xs, ts))
    (h : ∀ cs, (builtin b ts.toArray o.type cs (xs.toArray.map a.eval)).run P w = .ok (.value x) w') : (execOp a.eval o).run P w = .ok (.value x) w' := by
  have := asBuiltin_eq ho
  simp only [execOp, this, resolve, Sem.run_bind, Sem.run_pure, Result.andThen_ok, invoke]
  exact h _

theorem isK_some {P : Program} {t : TypeId} {q : TypeDesc → Bool} (h : isK P t q = true) : ∃ d, P.underlying t = some d ∧ q d = true := by
  unfold isK at h
  split at h
  · exact ⟨_, by assumption, h⟩
  · cases h

section
variable {P : Program} {gl : List (Nat × AV)} {K : Sites} {base : World} {J : Inj} {st st' : St} {w : World} {a : Act} {e : Env} {o : Oper} {v : AV}
variable (hS : Sim K base J st w) (hE : Reps J e a.tmps.toList) (hG : GlOk gl J)
include hS hE hG

omit hS hE hG in
theorem aInt_rep {u : AV} {x : Value} {i : Int} (hr : Rep J u x) (h : aInt u = some i) : ∃ k, x = .int k i := by
  cases u <;> simp [aInt] at h
  subst h
  simp only [Rep] at hr
  exact ⟨_, hr⟩

theorem did_indexAddr {m : Nat} {agg : Bool} {arr : Option Nat} {y z : AX} (hf : opFits P gl o.op (.indexAddr m agg arr y z) = true) (h : opA (.indexAddr m agg arr y z) e st = some (.val v st')) :
    Did P K base J (execOp a.eval o) w v st' := by
  cases ho : o.op <;> simp only [ho, opFits, Bool.false_eq_true] at hf
  rename_i t x ix
  simp only [Bool.and_eq_true] at hf
  obtain ⟨⟨hf, hx⟩, hi⟩ := hf
  have h1 := xFits_rep hE hG hx
  have h2 := xFits_rep hE hG hi
  simp only [opA] at h
  cases hai : aInt (z.ev e) with
  | none => simp [hai] at h
  | some i =>
    obtain ⟨k, hk⟩ := aInt_rep h2 hai
    simp only [hai] at h
    split at h
    · cases h
    · rename_i hneg
      have hi0 : 0 ≤ i := by omega
      cases arr with
      | some n =>
        split at hf
        · rename_i n' el n'' hud harr
          cases harr
          simp only [Bool.and_eq_true, beq_iff_eq, decide_eq_true_eq] at hf
          obtain ⟨⟨rfl, hv⟩, hm⟩ := hf
          obtain ⟨hsize, _, _⟩ := varFits_iff hv
          cases hy : y.ev e <;> simp only [hy] at h <;> try (cases h; done)
          · rename_i r off
            split at h
            · rename_i hlt
              simp only [Option.some.injEq, Nx.val.injEq] at h
              obtain ⟨rfl, rfl⟩ := h
              rw [hy] at h1; simp only [Rep] at h1
              obtain ⟨b, hb, e1⟩ := h1
              refine Did.same hS (x := .pointer (some ⟨b, off + i.toNat * m, none⟩)) (by simp only [Rep]; exact ⟨b, hb, rfl⟩) ?_
              simp [execOp, ho, e1, hk, Instr.indexAt, asIntOf, r_under hud, Instr.sureAddr, hi0, hlt, r_size hsize, add_none]
            · cases h
          · rename_i u
            cases u <;> simp only [] at h <;> try (cases h; done)
            rename_i cs
            split at h
            · rename_i hlt
              cases htv : takeVar m agg cs (i.toNat * m) with
              | none => simp [htv] at h
              | some q =>
                simp only [htv, Option.map_some, Option.some.injEq, Nx.val.injEq] at h
                obtain ⟨rfl, rfl⟩ := h
                rw [hy] at h1; simp only [Rep] at h1
                obtain ⟨ad, y', e1, hsp, ⟨arr, e2, hr, hc⟩, _, hrow⟩ := h1
                obtain ⟨q', hq, hrq, hvar, hcells⟩ := r_part (w := w) hv hr hc htv
                refine Did.same hS (x := .pointer (some ⟨ad.block, ad.off + i.toNat * m, none⟩)) ?_ ?_
                · simp only [Rep]
                  refine ⟨_, q', rfl, rfl, hrq, hvar, ?_⟩
                  rw [e2] at hrow
                  exact Row.sub hrow hcells
                · simp [execOp, ho, e1, hk, Instr.indexAt, asIntOf, r_under hud, Instr.sureAddr, hi0, hlt, r_size hsize, add_none hsp]
            · cases h
        · rename_i heq; cases heq
        · cases hf
      | none =>
        split at hf
        · rename_i heq; cases heq
        · rename_i el hud harr
          simp only [Bool.and_eq_true, beq_iff_eq, decide_eq_true_eq] at hf
          obtain ⟨⟨hv, hm⟩, _⟩ := hf
          obtain ⟨hsize, _, _⟩ := varFits_iff hv
          cases hy : y.ev e <;> simp only [hy] at h <;> try (cases h; done)
          · rename_i m' es ap
            split at h
            · rename_i hmm
              subst hmm
              cases hes : es[i.toNat]? with
              | none => simp [hes] at h
              | some q =>
                simp only [hes, Option.map_some, Option.some.injEq, Nx.val.injEq] at h
                obtain ⟨rfl, rfl⟩ := h
                rw [hy] at h1; simp only [Rep] at h1
                have hlt : i.toNat < es.length := (List.getElem?_eq_some_iff.1 hes).1
                obtain ⟨_, ⟨_, hnil⟩ | ⟨ad, cap, e1, hsp, hcap, _, hel⟩⟩ := h1
                · subst hnil; simp at hlt
                · obtain ⟨y', hr, hvar, hsz, hrow⟩ := hel.get i.toNat q hes
                  refine Did.same hS (x := .pointer (some ⟨ad.block, ad.off + i.toNat * m', none⟩)) ?_ ?_
                  · simp only [Rep]; exact ⟨_, y', rfl, rfl, hr, hvar, hrow⟩
                  · have hlt' : i < (es.length : Int) := by omega
                    simp [execOp, ho, e1, hk, Instr.indexAt, asIntOf, r_under hud, hi0, hlt', r_size hsize, add_none (hsp (by omega))]
            · cases h
          · rename_i r m' off n cap
            split at h
            · rename_i hmm
              obtain ⟨hmm, hlt⟩ := hmm
              subst hmm
              simp only [Option.some.injEq, Nx.val.injEq] at h
              obtain ⟨rfl, rfl⟩ := h
              rw [hy] at h1; simp only [Rep] at h1
              obtain ⟨b, c, hb, e1, _⟩ := h1
              refine Did.same hS (x := .pointer (some ⟨b, off + i.toNat * m', none⟩)) (by simp only [Rep]; exact ⟨b, hb, rfl⟩) ?_
              simp [execOp, ho, e1, hk, Instr.indexAt, asIntOf, r_under hud, hi0, hlt, r_size hsize, add_none]
            · cases h
        · cases hf

theorem did_indexStr {y z : AX} (hf : opFits P gl o.op (.indexStr y z) = true) (h : opA (.indexStr y z) e st = some (.val v st')) : Did P K base J (execOp a.eval o) w v st' := by
  cases ho : o.op <;> simp only [ho, opFits, Bool.false_eq_true] at hf
  rename_i t x ix
  simp only [Bool.and_eq_true] at hf
  obtain ⟨⟨hf, hx⟩, hi⟩ := hf
  have h1 := xFits_rep hE hG hx
  have h2 := xFits_rep hE hG hi
  have hud : P.underlying t = some .string := by
    unfold isK at hf
    split at hf
    · rename_i dd hd'; cases dd <;> simp at hf; exact hd'
    · cases hf
  simp only [opA] at h
  cases hy : y.ev e <;> simp only [hy] at h <;> try (cases h; done)
  rename_i s
  cases hai : aInt (z.ev e) with
  | none => simp [hai] at h
  | some i =>
    obtain ⟨k, hk⟩ := aInt_rep h2 hai
    simp only [hai] at h
    split at h
    · cases h
    · rename_i hneg
      have hi0 : 0 ≤ i := by omega
      cases hb : s[i.toNat]? with
      | none => simp [hb] at h
      | some b =>
        simp only [hb, Option.map_some, Option.some.injEq, Nx.val.injEq] at h
        obtain ⟨rfl, rfl⟩ := h
        rw [hy] at h1; simp only [Rep] at h1
        obtain ⟨ba, e1, rfl⟩ := h1
        have hlt : i.toNat < ba.size := by have := (List.getElem?_eq_some_iff.1 hb).1; simpa using this
        have hb' : ba[i.toNat]? = some b := by
          rw [getElem?_pos ba i.toNat hlt]
          obtain ⟨_, hg⟩ := List.getElem?_eq_some_iff.1 hb
          rw [← hg]; simp; rfl
        refine Did.same hS (x := .int .u8 b.toNat) (by simp [Rep, byteV]) ?_
        simp [execOp, ho, e1, hk, Instr.index, asIntOf, r_under hud, hi0, hb']

theorem did_indexArr {n m : Nat} {agg : Bool} {y z : AX} (hf : opFits P gl o.op (.indexArr n m agg y z) = true) (h : opA (.indexArr n m agg y z) e st = some (.val v st')) : Did P K base J (execOp a.eval o) w v st' := by
  cases ho : o.op <;> simp only [ho, opFits, Bool.false_eq_true] at hf
  rename_i t x ix
  simp only [Bool.and_eq_true] at hf
  obtain ⟨⟨hf, hx⟩, hi⟩ := hf
  have h1 := xFits_rep hE hG hx
  have h2 := xFits_rep hE hG hi
  split at hf
  · rename_i n' el hud
    simp only [Bool.and_eq_true, beq_iff_eq] at hf
    obtain ⟨rfl, hv⟩ := hf
    obtain ⟨hsize, _, _⟩ := varFits_iff hv
    simp only [opA] at h
    cases hy : y.ev e <;> simp only [hy] at h <;> try (cases h; done)
    rename_i cs
    cases hai : aInt (z.ev e) with
    | none => simp [hai] at h
    | some i =>
      obtain ⟨k, hk⟩ := aInt_rep h2 hai
      simp only [hai] at h
      split at h
      · rename_i hlt
        cases htv : takeVar m agg cs (i.toNat * m) with
        | none => simp [htv] at h
        | some q =>
          simp only [htv, Option.map_some, Option.some.injEq, Nx.val.injEq] at h
          obtain ⟨rfl, rfl⟩ := h
          rw [hy] at h1; simp only [Rep] at h1
          obtain ⟨arr, e1, hr, hc⟩ := h1
          obtain ⟨q', hq, hrq, _, _⟩ := r_part (w := w) hv hr hc htv
          refine Did.same hS hrq ?_
          simp [execOp, ho, e1, hk, Instr.index, asIntOf, r_under hud, hlt.1, hlt.2, r_size hsize, hq]
      · cases h
  · cases hf

theorem did_lenStr {y : AX} (hf : opFits P gl o.op (.lenStr y) = true) (h : opA (.lenStr y) e st = some (.val v st')) : Did P K base J (execOp a.eval o) w v st' := by
  simp only [opFits] at hf
  split at hf
  · rename_i x t ho
    simp only [Bool.and_eq_true] at hf
    obtain ⟨hx, hk⟩ := hf
    have h1 := xFits_rep hE hG hx
    obtain ⟨d, hd, hk⟩ := isK_some hk
    cases d <;> simp at hk
    simp only [opA] at h
    cases hy : y.ev e <;> simp only [hy] at h <;> try (cases h; done)
    simp only [Option.some.injEq, Nx.val.injEq] at h
    obtain ⟨rfl, rfl⟩ := h
    rw [hy] at h1; simp only [Rep] at h1
    obtain ⟨ba, e1, rfl⟩ := h1
    exact Did.same hS (by simp only [Rep]; rfl) (r_builtin ho (fun cs => by simp [builtin, Builtin.len_, r_under hd, e1, goInt]))
  · cases hf

theorem did_lenSl {y : AX} (hf : opFits P gl o.op (.lenSl y) = true) (h : opA (.lenSl y) e st = some (.val v st')) : Did P K base J (execOp a.eval o) w v st' := by
  simp only [opFits] at hf
  split at hf
  · rename_i x t ho
    simp only [Bool.and_eq_true] at hf
    obtain ⟨hx, hk⟩ := hf
    have h1 := xFits_rep hE hG hx
    obtain ⟨d, hd, hk⟩ := isK_some hk
    cases d <;> simp at hk
    simp only [opA] at h
    replace h1 := h1.asLst (m := 1)
    cases hy : (y.ev e).asLst 1 <;> simp only [hy] at h <;> try (cases h; done)
    all_goals
      simp only [Option.some.injEq, Nx.val.injEq] at h
      obtain ⟨rfl, rfl⟩ := h
      rw [hy] at h1; simp only [Rep] at h1
    · obtain ⟨_, ⟨e1, e2⟩ | ⟨ad, cap, e1, _⟩⟩ := h1
      · exact Did.same hS (by simp only [Rep]; rfl) (r_builtin ho (fun cs => by simp [builtin, Builtin.len_, r_under hd, e1, e2, goInt]))
      · exact Did.same hS (by simp only [Rep]; rfl) (r_builtin ho (fun cs => by simp [builtin, Builtin.len_, r_under hd, e1, goInt]))
    · obtain ⟨b, c, _, e1, _⟩ := h1
      exact Did.same hS (by simp only [Rep]; rfl) (r_builtin ho (fun cs => by simp [builtin, Builtin.len_, r_under hd, e1, goInt]))
  · cases hf

omit hE hG in
/-- The entries of a map. -/
theorem r_map {u : AV} {x : Value} {es : List (AV × AV)} (hr : Rep J u x)
    (h : mapOf st u = some es) :
    (x = .map none ∧ es = [] ∧ u = .nilMap) ∨ ∃ r b ents clock, u = .map r ∧ st[r]? = some (.map es) ∧ J.ρ r = some b ∧ x = .map (some b) ∧ w.heap[b]? = some (.map ents clock) ∧ RepsM J es ents.toList := by
  cases u <;> simp only [mapOf] at h <;> try (cases h; done)
  · rename_i r
    simp only [Rep] at hr
    obtain ⟨b, hb, e1⟩ := hr
    cases hst : st[r]? with
    | none => simp [hst] at h
    | some ob =>
      cases ob <;> simp only [hst] at h <;> try (cases h; done)
      cases h
      obtain ⟨b', ents, clock, h1, h2, h3⟩ := hS.obj r _ hst
      rw [hb] at h1; cases h1
      exact .inr ⟨r, b, ents, clock, rfl, hst, hb, e1, h2, h3⟩
  · cases h
    simp only [Rep] at hr
    exact .inl ⟨hr, rfl, rfl⟩

theorem did_lenMap {y : AX} (hf : opFits P gl o.op (.lenMap y) = true) (h : opA (.lenMap y) e st = some (.val v st')) : Did P K base J (execOp a.eval o) w v st' := by
  simp only [opFits] at hf
  split at hf
  · rename_i x t ho
    simp only [Bool.and_eq_true] at hf
    obtain ⟨hx, hk⟩ := hf
    have h1 := xFits_rep hE hG hx
    obtain ⟨d, hd, hk⟩ := isK_some hk
    cases d <;> simp at hk
    simp only [opA] at h
    cases hm : mapOf st (y.ev e) with
    | none => simp [hm] at h
    | some es =>
      simp only [hm, Option.map_some, Option.some.injEq, Nx.val.injEq] at h
      obtain ⟨rfl, rfl⟩ := h
      rcases r_map hS h1 hm with ⟨e1, e2, _⟩ | ⟨r', b, ents, clock, _, _, _, e1, hh, hm⟩
      · subst e2
        exact Did.same hS (x := .int .i64 0) (by simp [Rep]) (r_builtin ho (fun cs => by simp [builtin, Builtin.len_, r_under hd, e1, goInt]))
      · have := hm.1
        exact Did.same hS (x := .int .i64 ents.size) (by simp [Rep, this]) (r_builtin ho (fun cs => by simp [builtin, Builtin.len_, r_under hd, e1, goInt, getObj, Sem.run, hh]))
  · cases hf

omit hE hG in
theorem did_lenArr {n : Nat} (hf : opFits P gl o.op (.lenArr n) = true) (h : opA (.lenArr n) e st = some (.val v st')) : Did P K base J (execOp a.eval o) w v st' := by
  simp only [opFits] at hf
  split at hf
  · rename_i x t ho
    simp only [opA, Option.some.injEq, Nx.val.injEq] at h
    obtain ⟨rfl, rfl⟩ := h
    split at hf
    · rename_i n' el hd
      simp at hf; subst hf
      exact Did.same hS (by simp only [Rep]; rfl) (r_builtin ho (fun cs => by simp [builtin, Builtin.len_, r_under hd, goInt]))
    · rename_i ar hd
      split at hf
      · rename_i n' el hd'
        simp at hf; subst hf
        exact Did.same hS (by simp only [Rep]; rfl) (r_builtin ho (fun cs => by simp [builtin, Builtin.len_, r_under hd, r_under hd', goInt]))
      · cases hf
    · cases hf
  · cases hf

omit hS hE hG in
theorem did_minmax_aux {isMax : Bool} : ∀ {us : List AV} {xs : List Value} {u v : AV} {x : Value}, Rep J u x → Reps J us xs → minmaxA isMax u us = some v →
    ∃ z, (xs.foldlM (if isMax then Builtin.max2 else Builtin.min2) x).run P w = .ok z w ∧ Rep J v z
  | [], xs, u, v, x, hr, hrs, h => by
    simp only [Reps] at hrs; subst hrs
    simp only [minmaxA, Option.some.injEq] at h; subst h
    exact ⟨x, by simp, hr⟩
  | q :: us, xs, u, v, x, hr, hrs, h => by
    simp only [Reps] at hrs; obtain ⟨y, ys, rfl, h1, h2⟩ := hrs
    cases u <;> cases q <;> simp only [minmaxA] at h <;> try (cases h; done)
    split at h
    · rename_i k m l n hk
      subst hk
      simp only [Rep] at hr h1
      subst hr h1
      obtain ⟨z, hz, hrz⟩ := did_minmax_aux (x := .int k (if isMax then (if n > m then n else m) else (if n < m then n else m))) (by simp [Rep]) h2 h
      refine ⟨z, ?_, hrz⟩
      rw [List.foldlM_cons, Sem.run_bind]
      cases isMax <;> simp [Builtin.min2, Builtin.max2] at hz ⊢ <;> exact hz
    · cases h

theorem did_minmax {isMax : Bool} {ys : List AX} (hf : opFits P gl o.op (.minmax isMax ys) = true) (h : opA (.minmax isMax ys) e st = some (.val v st')) : Did P K base J (execOp a.eval o) w v st' := by
  have key : ∀ (args : List Operand), xsFit gl args ys = true → ∃ q qs z, args.map a.eval = q :: qs ∧ (qs.foldlM (if isMax then Builtin.max2 else Builtin.min2) q).run P w = .ok z w ∧ Rep J v z ∧ st' = st := by
    intro args hx
    have hr := xsFit_reps hE hG hx
    simp only [opA] at h
    cases hm : ys.map (AX.ev e) with
    | nil => simp [hm] at h
    | cons u us =>
      rw [hm] at hr
      simp only [Reps] at hr; obtain ⟨q, qs, hq, h1, h2⟩ := hr
      simp only [hm] at h
      cases hv : minmaxA isMax u us with
      | none => simp [hv] at h
      | some r =>
        simp only [hv, Option.map_some, Option.some.injEq, Nx.val.injEq] at h
        obtain ⟨rfl, rfl⟩ := h
        obtain ⟨z, hz, hrz⟩ := did_minmax_aux (P := P) (w := w) h1 h2 hv
        exact ⟨q, qs, z, hq, hz, hrz, rfl⟩
  simp only [opFits] at hf
  split at hf
  · rename_i args ts ho
    simp only [Bool.and_eq_true, Bool.not_eq_true'] at hf
    obtain ⟨rfl, hx⟩ := hf
    obtain ⟨q, qs, z, hq, hz, hrz, rfl⟩ := key args hx
    refine Did.same hS hrz (r_builtin ho (fun cs => ?_))
    simp only [builtin, Builtin.min_, Sem.run_bind]
    simp only [Bool.false_eq_true, if_false] at hz
    simp [hq, hz]
  · rename_i args ts ho
    simp only [Bool.and_eq_true] at hf
    obtain ⟨rfl, hx⟩ := hf
    obtain ⟨q, qs, z, hq, hz, hrz, rfl⟩ := key args hx
    refine Did.same hS hrz (r_builtin ho (fun cs => ?_))
    simp only [builtin, Builtin.max_, Sem.run_bind]
    simp only [if_true] at hz
    simp [hq, hz]
  · cases hf
end
end Go.Proofs.YtfkmdajlpnkebaaDoor.Ai
